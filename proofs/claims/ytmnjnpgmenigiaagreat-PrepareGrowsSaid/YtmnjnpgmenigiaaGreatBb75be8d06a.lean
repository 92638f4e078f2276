/- A part of the proof: an executor over plain data, shown sound for the model, and what it computes of the functions. -/
import Derived.Test.YtmnjnpgmenigiaaGreatBb3e8f9b339
set_option linter.all false
/-! Code. -/
namespace Go.Ab
open Go

section
variable (P : Program) (idm : FuncId → FuncId) (N : Nat)

/-- No ranges over functions. -/
def noBack : SCode → Bool
  | .seq a b => noBack a && noBack b
  | .cond _ a b => noBack a && noBack b
  | .blk _ b => noBack b
  | .loop _ _ b => noBack b
  | .trim _ _ _ _ b => noBack b
  | .rback .. => false
  | _ => true

def codeL : Code → SCode → Bool
  | c, .trim _ _ _ _ b => codeL c b
  | .skip, .skip => true
  | .region _ ops false, .reg _ sops => opersL P idm N ops ops.toList sops
  | .region _ ops true, .draw _ sops pairs => opersL P idm N ops ops.toList sops && drawOk ops sops pairs
  | .seq a b, .seq a' b' => codeL a a' && codeL b b'
  | .cond c a b, .cond c' a' b' => opdL idm c c' && codeL a a' && codeL b b'
  | .block id b, .blk id' b' => id == id' && codeL b b'
  | .loop b, .loop _ _ b' => codeL b b'
  | .exit id, .exit id' => id == id'
  | .ret, .ret => true
  | .rangeFunc f ps a b, .rback g x p q _ _ a' b' => opdL idm f x && ps.toList == [p, q] && decide (p < N) && decide (q < N) && decide (p ≠ q) && codeL a a' && codeL b b' && noBack a' && noBack b' && backL P idm g
  | _, _ => false

end

theorem mem_keepT {T : Tm} : ∀ {kt : List Nat} {i : Nat}, tget (keepT T kt) i = tget T i ∨ tget (keepT T kt) i = .undef
  | [], i => .inr rfl
  | j :: r, i => by
    simp only [keepT, tget]
    split
    · rename_i h; subst h; exact .inl rfl
    · exact mem_keepT
theorem names_tget : ∀ {T : Tm} {i : Nat} {x : Nm}, x ∈ (tget T i).names → x ∈ namesT T
  | [], i, x, h => by simp [tget, AV.names] at h
  | (j, v) :: r, i, x, h => by
    simp only [tget] at h
    simp only [namesT, List.mem_append]
    split at h
    · exact .inl h
    · exact .inr (names_tget h)
theorem names_hget : ∀ {H : Hp} {y x : Nm} {o : AObj}, hget H y = some o → x ∈ o.names → x ∈ namesH H
  | [], y, x, o, h, _ => by simp [hget] at h
  | (z, q) :: r, y, x, o, h, hx => by
    simp only [hget] at h
    split at h
    · subst h; simp only [namesH, List.mem_append]; exact .inl hx
    · have := names_hget h hx
      cases q with
      | none => simpa [namesH] using this
      | some q => simp only [namesH, List.mem_append]; exact .inr this
theorem hget_exts {H : Hp} : ∀ {n k : Nat} {x : Nm} {o : AObj}, hget (exts H k n) x = some o → hget H x = some o
  | 0, k, x, o, h => by simp [exts, hget] at h
  | n + 1, k, x, o, h => by
    simp only [exts, hget] at h
    split at h
    · rename_i e; subst e; exact h
    · exact hget_exts h
theorem hget_keepH {H : Hp} : ∀ {ns : List Nm} {x : Nm} {o : AObj}, hget (keepH H ns) x = some o → hget H x = some o
  | [], x, o, h => by simp [keepH, hget] at h
  | y :: r, x, o, h => by
    simp only [keepH, hget] at h
    split at h
    · rename_i e; subst e; exact h
    · exact hget_keepH h
theorem allIn_spec {H : Hp} : ∀ {ns : List Nm}, allIn H ns = true → ∀ x ∈ ns, (hget H x).isSome = true
  | [], _, x, h => by cases h
  | y :: r, ha, x, h => by
    simp only [allIn, Bool.and_eq_true] at ha
    rcases List.mem_cons.1 h with rfl | h
    · exact ha.1
    · exact allIn_spec ha.2 x h

section
variable {P : Program} {idm : FuncId → FuncId} {N : Nat} {m0 : NMap} {w0 : World} {W0 : Nat → Prop} {H0 : Hp} {cf : CF} {raw : FuncId → Bool} {n : Nat}

theorem cutX_ok {kt : List Nat} {kh : List Nm} {st st' : St} (h : cutX n kt kh st = some st') {a : Act} {w : World} (hfi : FI idm N m0 w0 W0 H0 st a w) : FI idm N m0 w0 W0 H0 st' a w := by
  simp only [cutX] at h
  split at h
  · rename_i hc
    simp only [Option.some.injEq] at h
    subst h
    simp only [Bool.and_eq_true] at hc
    obtain ⟨h0, m, W, s, si⟩ := hfi
    have hsub : ∀ x o, hget (exts st.H 0 n ++ keepH st.H kh) x = some o → hget st.H x = some o := fun x o h => by
      rw [hget_append] at h
      split at h
      · exact hget_exts h
      · exact hget_keepH h
    refine ⟨h0, m, W, { h := fun x o hx => s.h x o (hsub x o hx), sep := fun x y o o' b hx hy => s.sep x y o o' b (hsub x o hx) (hsub y o' hy), ch := fun y o x hy hx => allIn_spec hc.2 x (names_hget hy hx), lt := s.lt, sz := s.sz, t := fun i => ?_, ct := fun i x hx => allIn_spec hc.1 x (names_tget hx) }, si.less hsub⟩
    rcases mem_keepT (T := st.T) (kt := kt) (i := i) with e | e
    · show Rep idm m w W (tget (keepT st.T kt) i) _
      rw [e]; exact s.t i
    · show Rep idm m w W (tget (keepT st.T kt) i) _
      rw [e]; exact .undef _
  · cases h

theorem least_of {p : Nat → Prop} (h : ∃ n, p n) : ∃ n, p n ∧ ∀ m, p m → n ≤ m := by
  obtain ⟨n, hn⟩ := h
  induction n using Nat.strongRecOn with
  | _ n ih =>
    by_cases hx : ∃ m, m < n ∧ p m
    · obtain ⟨m, h1, h2⟩ := hx; exact ih m h1 h2
    · exact ⟨n, hn, fun m hm => by
        rcases Nat.lt_or_ge m n with h | h
        · exact absurd ⟨m, h, hm⟩ hx
        · exact h⟩

open Classical in
noncomputable def least (p : Nat → Prop) : Nat := if h : ∃ n, p n then Classical.choose (least_of h) else 0
theorem least_spec {p : Nat → Prop} (h : ∃ n, p n) : p (least p) ∧ ∀ m, p m → least p ≤ m := by
  unfold least
  rw [dif_pos h]
  exact Classical.choose_spec (least_of h)

theorem opL_defer {c : Call} {s : SOp} : opL P idm (.defer c) s = false := by cases s <;> rfl
theorem noDefer {ops : Array Go.Oper} {sops : List SOper} (hl : opersL P idm N ops ops.toList sops = true) : ∀ (i : Nat) (o : Go.Oper), ops[i]? = some o → ∀ c, o.op ≠ .defer c := by
  intro i o ho c hc
  obtain ⟨h1, h2⟩ := opersL_get hl
  have hlt := (Array.getElem?_eq_some_iff.1 ho).1
  have hs : i < sops.length := by rw [← h1]; simpa using hlt
  have := h2 i o sops[i] (by simpa using ho) (List.getElem?_eq_getElem hs)
  simp only [operL, Bool.and_eq_true] at this
  rw [hc, opL_defer] at this
  cases this.2

theorem sexec_in (cfok : CFOK P idm cf) (k : Nat) : ∀ (c' : SCode) (rd : Option Nat) (d n : Nat) (m0 : NMap) (w0 : World) (W0 : Nat → Prop) (H0 : Hp) (c : Code) (st st' : St) (e : Ex) (a : Act) (w : World) (Q : Exit → Act → World → Prop), codeL P idm N c c' = true → (rd.isSome = true → noBack c' = true) → sexec cf raw n k c' st = some (e, st') → FI idm N m0 w0 W0 H0 st a w →
    (∀ a w, FI idm N m0 w0 W0 H0 st' a w → Q (exOf e) a w) → c.wpIn (rdF rd) d P Q a w := by
  intro c'
  induction c' with
  | skip =>
    intro rd d n m0 w0 W0 H0 c st st' e a w Q hl hnb h hfi hQ
    cases c <;> simp [codeL] at hl
    simp only [sexec, Option.some.injEq, Prod.mk.injEq] at h
    obtain ⟨rfl, rfl⟩ := h
    exact wpIn_skip (hQ a w hfi)
  | reg r sops =>
    intro rd d n m0 w0 W0 H0 c st st' e a w Q hl hnb h hfi hQ
    obtain ⟨id, ops, rfl⟩ : ∃ id ops, c = .region id ops false := by
      cases c with
      | region id ops d => cases d with
        | false => exact ⟨id, ops, rfl⟩
        | true => simp [codeL] at hl
      | _ => simp [codeL] at hl
    simp only [codeL] at hl
    simp only [sexec] at h
    cases hx : opsX cf raw r 0 sops st with
    | none => simp [hx, obind_none] at h
    | some st1 =>
      simp only [hx, obind_some, Option.some.injEq, Prod.mk.injEq] at h
      obtain ⟨rfl, rfl⟩ := h
      exact wpIn_mono (wpIn_region (wpOpsIn_of_wpOps (Q := fun e a w => e = .normal ∧ FI idm N m0 w0 W0 H0 st1 a w) (fun a w h => by cases h.1) (noDefer hl) _ _ _ (ops_region_reg cfok hl hx (fun a w h => ⟨rfl, h⟩) hfi))) fun e a w h => h.1 ▸ hQ a w h.2
  | draw r sops pairs =>
    intro rd d n m0 w0 W0 H0 c st st' e a w Q hl hnb h hfi hQ
    obtain ⟨id, ops, rfl⟩ : ∃ id ops, c = .region id ops true := by
      cases c with
      | region id ops d => cases d with
        | true => exact ⟨id, ops, rfl⟩
        | false => simp [codeL] at hl
      | _ => simp [codeL] at hl
    simp only [codeL, Bool.and_eq_true] at hl
    simp only [sexec] at h
    cases hx : drawX cf raw r sops pairs st with
    | none => simp [hx, obind_none] at h
    | some st1 =>
      simp only [hx, obind_some, Option.some.injEq, Prod.mk.injEq] at h
      obtain ⟨rfl, rfl⟩ := h
      exact wpIn_mono (wpIn_region_draw fun t => wpOpsIn_of_wpOps (Q := fun e a w => e = .normal ∧ FI idm N m0 w0 W0 H0 st1 a w) (fun a w h => by cases h.1) (noDefer hl.1) _ _ _ (ops_region_drawn cfok hl.1 hl.2 hx (fun a w h => ⟨rfl, h⟩) hfi t)) fun e a w h => h.1 ▸ hQ a w h.2
  | seq x y ihx ihy =>
    intro rd d n m0 w0 W0 H0 c st st' e a w Q hl hnb h hfi hQ
    cases c <;> simp [codeL] at hl
    simp only [sexec, seqX] at h
    cases hx : sexec cf raw n k x st with
    | none => simp [hx] at h
    | some p =>
      obtain ⟨e1, st1⟩ := p
      simp only [noBack, Bool.and_eq_true] at hnb
      refine wpIn_seq (ihx rd d n _ _ _ _ _ st st1 e1 a w _ hl.1 (fun h => (hnb h).1) hx hfi fun a1 w1 h1 => ?_)
      rw [hx] at h
      cases e1 with
      | nrm => exact ihy rd d n _ _ _ _ _ st1 st' e a1 w1 Q hl.2 (fun h => (hnb h).2) h h1 hQ
      | ex id => simp only [Option.some.injEq, Prod.mk.injEq] at h; obtain ⟨rfl, rfl⟩ := h; exact hQ a1 w1 h1
      | ret => simp only [Option.some.injEq, Prod.mk.injEq] at h; obtain ⟨rfl, rfl⟩ := h; exact hQ a1 w1 h1
  | cond cnd x y ihx ihy =>
    intro rd d n m0 w0 W0 H0 c st st' e a w Q hl hnb h hfi hQ
    cases c <;> simp [codeL] at hl
    simp only [sexec, onB] at h
    split at h
    · rename_i b hb
      obtain ⟨h0, m, W, s, si⟩ := hfi
      obtain ⟨hr, _⟩ := opdL_rep hl.1.1 s
      rw [hb] at hr
      simp only [noBack, Bool.and_eq_true] at hnb
      refine wpIn_cond hr.bool_inv ?_
      cases b with
      | true => simp only [if_true] at h ⊢; exact ihx rd d n _ _ _ _ _ st st' e a w Q hl.1.2 (fun h => (hnb h).1) h ⟨h0, m, W, s, si⟩ hQ
      | false => simp only [Bool.false_eq_true, if_false] at h ⊢; exact ihy rd d n _ _ _ _ _ st st' e a w Q hl.2 (fun h => (hnb h).2) h ⟨h0, m, W, s, si⟩ hQ
    · cases h
  | blk id b ih =>
    intro rd d n m0 w0 W0 H0 c st st' e a w Q hl hnb h hfi hQ
    cases c <;> simp [codeL] at hl
    obtain ⟨rfl, hl⟩ := hl
    simp only [sexec, blkX] at h
    cases hx : sexec cf raw n k b st with
    | none => simp [hx] at h
    | some p =>
      obtain ⟨e1, st1⟩ := p
      refine wpIn_block (ih rd d n _ _ _ _ _ st st1 e1 a w _ hl hnb hx hfi fun a1 w1 h1 => ?_)
      rw [hx] at h
      cases e1 with
      | nrm => simp only [Option.some.injEq, Prod.mk.injEq] at h; obtain ⟨rfl, rfl⟩ := h; exact hQ a1 w1 h1
      | ex id' =>
        simp only [exOf, Exit.inBlock]
        simp only at h
        split at h
        · rename_i hid
          simp only [Option.some.injEq, Prod.mk.injEq] at h
          obtain ⟨rfl, rfl⟩ := h
          rw [if_pos hid]; exact hQ a1 w1 h1
        · rename_i hid
          simp only [Option.some.injEq, Prod.mk.injEq] at h
          obtain ⟨rfl, rfl⟩ := h
          rw [if_neg hid]; exact hQ a1 w1 h1
      | ret => simp only [Option.some.injEq, Prod.mk.injEq] at h; obtain ⟨rfl, rfl⟩ := h; exact hQ a1 w1 h1
  | loop kt kh b ih =>
    intro rd d n m0 w0 W0 H0 c st st' e a w Q hl hnb h hfi hQ
    cases c <;> simp [codeL] at hl
    rename_i body
    simp only [sexec] at h
    have key : ∀ (a : Act) (w : World), (∃ j, ∃ st, loopN (fun st => obind (cutX n kt kh st) fun st => sexec cf raw n k b st) j st = some (e, st') ∧ FI idm N m0 w0 W0 H0 st a w) →
        body.wpIn (rdF rd) d P (Exit.then (fun a' w' => (∃ j, ∃ st, loopN (fun st => obind (cutX n kt kh st) fun st => sexec cf raw n k b st) j st = some (e, st') ∧ FI idm N m0 w0 W0 H0 st a' w') ∧
          least (fun j => ∃ st, loopN (fun st => obind (cutX n kt kh st) fun st => sexec cf raw n k b st) j st = some (e, st') ∧ FI idm N m0 w0 W0 H0 st a' w') <
          least (fun j => ∃ st, loopN (fun st => obind (cutX n kt kh st) fun st => sexec cf raw n k b st) j st = some (e, st') ∧ FI idm N m0 w0 W0 H0 st a w)) Q) a w := by
      intro a w hI
      obtain ⟨⟨st1, h1, h2⟩, _⟩ := least_spec hI
      generalize least (fun j => ∃ st, loopN (fun st => obind (cutX n kt kh st) fun st => sexec cf raw n k b st) j st = some (e, st') ∧ FI idm N m0 w0 W0 H0 st a w) = j at h1
      cases j with
      | zero => simp [loopN] at h1
      | succ j =>
        simp only [loopN] at h1
        cases hc : cutX n kt kh st1 with
        | none => simp [hc, obind_none] at h1
        | some st2 =>
          simp only [hc, obind_some] at h1
          cases hb : sexec cf raw n k b st2 with
          | none => simp [hb] at h1
          | some p =>
            obtain ⟨e1, st3⟩ := p
            refine ih rd d n _ _ _ _ _ st2 st3 e1 a w _ hl hnb hb (cutX_ok hc h2) fun a1 w1 h3 => ?_
            rw [hb] at h1
            cases e1 with
            | nrm =>
              simp only at h1
              have hI1 : ∃ j, ∃ st, loopN (fun st => obind (cutX n kt kh st) fun st => sexec cf raw n k b st) j st = some (e, st') ∧ FI idm N m0 w0 W0 H0 st a1 w1 := ⟨j, st3, h1, h3⟩
              exact ⟨hI1, Nat.lt_succ_of_le ((least_spec hI1).2 j ⟨st3, h1, h3⟩)⟩
            | ex id => simp only [Option.some.injEq, Prod.mk.injEq] at h1; obtain ⟨rfl, rfl⟩ := h1; exact hQ a1 w1 h3
            | ret => simp only [Option.some.injEq, Prod.mk.injEq] at h1; obtain ⟨rfl, rfl⟩ := h1; exact hQ a1 w1 h3
    exact wpIn_loop (fun a w => ∃ j, ∃ st, loopN (fun st => obind (cutX n kt kh st) fun st => sexec cf raw n k b st) j st = some (e, st') ∧ FI idm N m0 w0 W0 H0 st a w)
      (fun a w => least (fun j => ∃ st, loopN (fun st => obind (cutX n kt kh st) fun st => sexec cf raw n k b st) j st = some (e, st') ∧ FI idm N m0 w0 W0 H0 st a w)) ⟨k, st, h, hfi⟩ key
  | exit id =>
    intro rd d n m0 w0 W0 H0 c st st' e a w Q hl hnb h hfi hQ
    cases c <;> simp [codeL] at hl
    subst hl
    simp only [sexec, Option.some.injEq, Prod.mk.injEq] at h
    obtain ⟨rfl, rfl⟩ := h
    exact wpIn_exit (hQ a w hfi)
  | ret =>
    intro rd d n m0 w0 W0 H0 c st st' e a w Q hl hnb h hfi hQ
    cases c <;> simp [codeL] at hl
    simp only [sexec, Option.some.injEq, Prod.mk.injEq] at h
    obtain ⟨rfl, rfl⟩ := h
    exact wpIn_ret (hQ a w hfi)
  | cut kt kh =>
    intro rd d n m0 w0 W0 H0 c st st' e a w Q hl hnb h hfi hQ
    cases c <;> simp [codeL] at hl
  | trim kn kr ke kh b ih =>
    intro rd d n m0 w0 W0 H0 c st st' e a w Q hl hnb h hfi hQ
    have hl' : codeL P idm N c b = true := by cases c <;> simpa [codeL] using hl
    simp only [sexec] at h
    cases hx : sexec cf raw n k b st with
    | none => simp [hx, trimX] at h
    | some p =>
      obtain ⟨e1, st1⟩ := p
      refine ih rd d n _ _ _ _ c st st1 e1 a w Q hl' hnb hx hfi fun a1 w1 h1 => ?_
      rw [hx] at h
      have hcut : ∀ (kt : List Nat) (e2 : Ex), (obind (cutX n kt kh st1) fun st => some (e2, st)) = some (e, st') → e2 = e ∧ FI idm N m0 w0 W0 H0 st' a1 w1 := by
        intro kt e2 hh
        cases hc : cutX n kt kh st1 with
        | none => simp [hc, obind_none] at hh
        | some st2 =>
          simp only [hc, obind_some, Option.some.injEq, Prod.mk.injEq] at hh
          obtain ⟨rfl, rfl⟩ := hh
          exact ⟨rfl, cutX_ok hc h1⟩
      cases e1 with
      | nrm => obtain ⟨rfl, h2⟩ := hcut kn .nrm h; exact hQ a1 w1 h2
      | ret => obtain ⟨rfl, h2⟩ := hcut kr .ret h; exact hQ a1 w1 h2
      | ex id =>
        simp only [trimX] at h
        split at h
        · rename_i k1 _; obtain ⟨rfl, h2⟩ := hcut k1 (.ex id) h; exact hQ a1 w1 h2
        · simp only [Option.some.injEq, Prod.mk.injEq] at h; obtain ⟨rfl, rfl⟩ := h; exact hQ a1 w1 h1
  | rback g x p q kt kh a b iha ihb =>
    intro rd d n m0 w0 W0 H0 c st st' e a w Q hl hnb h hfi hQ
    cases rd with
    | some l => simp [noBack] at hnb
    | none =>
      cases c <;> simp only [codeL, Bool.false_eq_true] at hl
      simp only [Bool.and_eq_true, decide_eq_true_eq, beq_iff_eq] at hl
      obtain ⟨⟨⟨⟨⟨⟨⟨⟨⟨l1, l2⟩, l3⟩, l4⟩, l5⟩, l6⟩, l7⟩, l8⟩, l9⟩, l10⟩ := hl
      simp only [sexec] at h
      cases hct : cutX n kt kh st with
      | none => simp [hct, obind_none] at h
      | some st1 =>
      simp only [hct, obind_some] at h
      exact back_ok k d l1 l2 l3 l4 l10 (fun l d n m0 w0 W0 H0 st st' e a w Q h hfi hQ => iha (some l) d n m0 w0 W0 H0 _ st st' e a w Q l6 (fun _ => l8) h hfi hQ) (fun l d n m0 w0 W0 H0 st st' e a w Q h hfi hQ => ihb (some l) d n m0 w0 W0 H0 _ st st' e a w Q l7 (fun _ => l9) h hfi hQ) h (cutX_ok hct hfi) hQ

theorem sexec_ok (cfok : CFOK P idm cf) (k : Nat) : ∀ (c' : SCode) (c : Code) (st st' : St) (e : Ex) (a : Act) (w : World) (Q : Exit → Act → World → Prop), codeL P idm N c c' = true → sexec cf raw n k c' st = some (e, st') → FI idm N m0 w0 W0 H0 st a w →
    (∀ a w, FI idm N m0 w0 W0 H0 st' a w → Q (exOf e) a w) → c.wp P Q a w :=
  fun c' c st st' e a w Q hl h hfi hQ => wpIn_wide.1 (sexec_in cfok k c' none 0 n m0 w0 W0 H0 c st st' e a w Q hl (fun h => by cases h) h hfi hQ)
end
end Go.Ab

/-! The end of a call; all calls. -/
namespace Go.Ab
open Go

theorem operL_mono {P : Program} {idm : FuncId → FuncId} {N N' : Nat} (h : N ≤ N') {ops : Array Go.Oper} {o : Go.Oper} {s : SOper} (hl : operL P idm N ops o s = true) : operL P idm N' ops o s = true := by
  simp only [operL, Bool.and_eq_true] at hl ⊢
  obtain ⟨⟨⟨h1, h2⟩, h3⟩, h4⟩ := hl
  refine ⟨⟨⟨h1, ?_⟩, ?_⟩, h4⟩
  · split
    · rename_i t ht; rw [ht] at h2; simp only [decide_eq_true_eq] at h2 ⊢; exact Nat.lt_of_lt_of_le h2 h
    · rfl
  · unfold guardL at h3 ⊢
    split at h3
    · rfl
    · simp only [Bool.and_eq_true, decide_eq_true_eq] at h3 ⊢; exact ⟨h3.1, Nat.lt_of_lt_of_le h3.2 h⟩
    · cases h3
theorem opersL_mono {P : Program} {idm : FuncId → FuncId} {N N' : Nat} (h : N ≤ N') {ops : Array Go.Oper} : ∀ {l : List Go.Oper} {q : List SOper}, opersL P idm N ops l q = true → opersL P idm N' ops l q = true
  | [], [], _ => rfl
  | o :: r, s :: q, hl => by
    simp only [opersL, Bool.and_eq_true] at hl ⊢
    exact ⟨operL_mono h hl.1, opersL_mono h hl.2⟩
  | [], _ :: _, h => by simp [opersL] at h
  | _ :: _, [], h => by simp [opersL] at h
theorem codeL_mono {P : Program} {idm : FuncId → FuncId} {N N' : Nat} (h : N ≤ N') : ∀ {c : Code} {c' : SCode}, codeL P idm N c c' = true → codeL P idm N' c c' = true := by
  intro c c'
  induction c' generalizing c with
  | skip => cases c <;> simp [codeL]
  | exit => cases c <;> simp [codeL]
  | ret => cases c <;> simp [codeL]
  | cut => cases c <;> simp [codeL]
  | reg r sops => cases c with
    | region id ops d => cases d <;> simp only [codeL] <;> first | exact opersL_mono h | exact fun h => h
    | _ => simp [codeL]
  | draw r sops pairs => cases c with
    | region id ops d => cases d <;> simp only [codeL, Bool.and_eq_true] <;> first | exact fun h' => ⟨opersL_mono h h'.1, h'.2⟩ | exact fun h => h
    | _ => simp [codeL]
  | seq a b iha ihb => cases c <;> simp [codeL]; exact fun h1 h2 => ⟨iha h1, ihb h2⟩
  | cond x a b iha ihb => cases c <;> simp [codeL]; exact fun h0 h1 h2 => ⟨⟨h0, iha h1⟩, ihb h2⟩
  | blk id b ih => cases c <;> simp [codeL]; exact fun h0 h1 => ⟨h0, ih h1⟩
  | loop kt kh b ih => cases c <;> simp [codeL]; exact fun h1 => ih h1
  | trim kn kr ke kh b ih => cases c <;> simp only [codeL] <;> exact fun h1 => ih h1
  | rback g x p q kt kh a b iha ihb =>
    cases c <;> simp only [codeL, Bool.false_eq_true, false_implies]
    simp only [Bool.and_eq_true, decide_eq_true_eq]
    rintro ⟨⟨⟨⟨⟨⟨⟨⟨⟨l1, l2⟩, l3⟩, l4⟩, l5⟩, l6⟩, l7⟩, l8⟩, l9⟩, l10⟩
    exact ⟨⟨⟨⟨⟨⟨⟨⟨⟨l1, l2⟩, by omega⟩, by omega⟩, l5⟩, iha l6⟩, ihb l7⟩, l8⟩, l9⟩, l10⟩

/-- A function's code agrees. -/
def fnL (P : Program) (idm : FuncId → FuncId) (f : FuncId) (F : SFn) : Bool :=
  match P.funcs[idm f]? with
  | none => false
  | some fn => (match fn.body with
    | some c => codeL P idm fn.ntmps c F.body
    | none => false) && decide (fn.name ≠ "runtime.NumGoroutine") && rvsL P fn.results.toList F.rv

structure EnvOK (P : Program) (idm : FuncId → FuncId) (E : Env) : Prop where
  fn : ∀ f F, E.fn f = some F → fnL P idm f F = true
  ex : CFOK P idm E.ex

theorem tget_argT : ∀ {vs : List AV} {k i : Nat}, tget (argT k vs) i = if k ≤ i then (vs[i - k]?).getD .undef else .undef
  | [], k, i => by simp [argT, tget]
  | v :: r, k, i => by
    simp only [argT, tget]
    by_cases h : k = i
    · subst h; simp
    · rw [if_neg h, tget_argT]
      by_cases h2 : k ≤ i
      · rw [if_pos (by omega), if_pos h2]
        obtain ⟨d, hd⟩ : ∃ d, i - k = d + 1 := ⟨i - k - 1, by omega⟩
        rw [hd, show i - (k + 1) = d by omega]
        simp
      · rw [if_neg (by omega), if_neg h2]

theorem acall_ok {P : Program} {idm : FuncId → FuncId} {E : Env} (h : EnvOK P idm E) : ∀ k, CFOK P idm (acall E k)
  | 0 => fun f args objs c hc => by simp [acall] at hc
  | k + 1 => by
    intro f args objs c hc m w W vs hs hr hn
    simp only [acall] at hc
    cases hF : E.fn f with
    | none => simp only [hF] at hc; exact h.ex f args objs c hc m w W vs hs hr hn
    | some F =>
      simp only [hF] at hc
      have hfl := h.fn f F hF
      unfold fnL at hfl
      cases hP : P.funcs[idm f]? with
      | none => simp [hP] at hfl
      | some fn =>
        simp only [hP, Bool.and_eq_true, decide_eq_true_eq] at hfl
        obtain ⟨⟨h1, h2⟩, h3⟩ := hfl
        cases hb : fn.body with
        | none => simp [hb] at h1
        | some body =>
          simp only [hb] at h1
          right
          refine ⟨?_, ?_⟩
          · simp [callFunc, hP, hb, h2]
          · refine calls_of_wpM hP hb (wpIn_wide.2 ?_)
            cases hx : sexec (acall E k) E.raw objs.length k F.body { T := argT 0 args, H := argH 0 objs } with
            | none => simp [hx, endX] at hc
            | some p =>
              obtain ⟨e, st'⟩ := p
              have hfi : FI idm (vs.size + (fn.ntmps - vs.size)) m w W (argH 0 objs) { T := argT 0 args, H := argH 0 objs } { tmps := vs ++ Array.replicate (fn.ntmps - vs.size) undef, defers := [] } w := by
                refine ⟨Marks.nil _ _, m, W, { toSimH := hs, sz := by simp, t := fun i => ?_, ct := fun i x hx => ?_ }, Since.refl ..⟩
                · rw [tget_argT]
                  simp only [Nat.zero_le, if_true, Nat.sub_zero]
                  cases hi : args[i]? with
                  | none => exact .undef _
                  | some v =>
                    have hlt := (List.getElem?_eq_some_iff.1 hi).1
                    have hlt' : i < vs.size := by rw [hr.hl]; exact hlt
                    have hv : (vs ++ Array.replicate (fn.ntmps - vs.size) undef).getD i undef = vs[i] := by
                      simp [Array.getD_eq_getD_getElem?, Array.getElem?_append, hlt']
                    simp only [Option.getD_some]
                    rw [hv]
                    exact hr.h i v _ hi (Array.getElem?_eq_getElem hlt')
                · simp only [tget_argT, Nat.zero_le, if_true, Nat.sub_zero] at hx
                  cases hi : args[i]? with
                  | none => rw [hi] at hx; simp [AV.names] at hx
                  | some v => rw [hi] at hx; exact hn x (mem_namesL.2 ⟨v, List.mem_of_getElem? hi, by simpa using hx⟩)
              refine sexec_ok (acall_ok h k) k F.body body _ st' e _ w _ (codeL_mono (by omega) h1) hx hfi fun a' w' hfi' => ?_
              rw [hx] at hc
              cases e with
              | nrm =>
                simp only [endX] at hc
                exact leave_ok h3 hc hfi' fun _ _ h => h
              | ret =>
                simp only [endX] at hc
                exact leave_ok h3 hc hfi' fun _ _ h => h
              | ex id => simp [endX] at hc

theorem callW_ok {P : Program} {idm : FuncId → FuncId} {E : Env} (h : EnvOK P idm E) : CFOK P idm (callW E) := by
  intro f args objs c hc
  obtain ⟨k, hk⟩ := (callW_iff E f args objs c).1 hc
  exact acall_ok h k f args objs c hk
end Go.Ab
