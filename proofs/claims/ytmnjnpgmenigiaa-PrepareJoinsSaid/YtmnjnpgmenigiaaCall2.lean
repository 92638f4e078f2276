/- A part of the proof: an executor over plain data, shown sound for the model, and what it computes of the functions. -/
import Derived.Test.YtmnjnpgmenigiaaCall
set_option linter.all false
/-! Calls: what is handed over. -/
set_option linter.unusedVariables false
set_option linter.unusedSimpArgs false
set_option linter.unusedSectionVars false
namespace Go.Ab
open Go

/-- The slices that lie in variables that are handed over. -/
def boxNs (H : Hp) : List Nm → List Nm
  | [] => []
  | x :: r => match hget H x with
    | some (.box cs) => cs.flatMap hslN ++ boxNs H r
    | _ => boxNs H r

theorem hget_boxUps {H : Hp} : ∀ {ns : List Nm} {b : Hp}, boxUps H ns = some b →
    (∀ x ∈ upNs b, ∃ o, hget b x = some o) ∧ (∀ x ∈ boxNs H ns, (∃ es z f, hget H x = some (.parr es z f)) → x ∈ upNs b) ∧
    ∀ (x : Nm) (o : AObj), hget b x = some o → (∃ es z f, hget H x = some (.parr es z f) ∧ o = .parr es z true ∧ x ∈ boxNs H ns) ∨
      ∃ cs cs', hget H x = some (.box cs) ∧ frzL1 H cs = some cs' ∧ o = .box cs' ∧ ∀ y ∈ cs.flatMap hslN, y ∈ boxNs H ns
  | [], b, h => by
    simp only [boxUps, Option.some.injEq] at h
    subst h
    exact ⟨fun x h => by simp [upNs] at h, fun x h => by simp [boxNs] at h, fun x o h => by simp [hget] at h⟩
  | x :: r, b, h => by
    simp only [boxUps] at h
    cases hx : hget H x with
    | none => simp [hx] at h
    | some ob =>
      cases hr : boxUps H r with
      | none => cases ob <;> simp [hx, hr] at h
      | some u =>
        obtain ⟨i1, i2, i3⟩ := hget_boxUps hr
        have other : (∀ cs, ob ≠ .box cs) → some u = some b → _ := fun hne e => (⟨hne, by injection e⟩ : (∀ cs, ob ≠ .box cs) ∧ u = b)
        cases ob with
        | box cs =>
          simp only [hx, hr] at h
          cases hf : frzL1 H cs with
          | none => simp [hf] at h
          | some cs' =>
            simp only [hf, Option.some.injEq] at h
            subst h
            have hbn : boxNs H (x :: r) = cs.flatMap hslN ++ boxNs H r := by simp [boxNs, hx]
            rw [hbn]
            refine ⟨fun y hy => ?_, fun y hy hp => ?_, fun y o ho => ?_⟩
            · simp only [hget]
              split
              · exact ⟨_, rfl⟩
              · rename_i hne
                rcases List.mem_cons.1 hy with rfl | hy
                · exact absurd rfl hne
                · rw [hget_append]
                  split
                  · rename_i hm; exact ups_frzUp hm
                  · rename_i hm
                    rcases mem_upNs_append.1 hy with h | h
                    · exact absurd h hm
                    · exact i1 y h
            · refine List.mem_cons_of_mem _ (mem_upNs_append.2 ?_)
              rcases List.mem_append.1 hy with hy | hy
              · obtain ⟨es, z, f, hp⟩ := hp; exact .inl (mem_frzUp hp hy)
              · exact .inr (i2 y hy hp)
            · simp only [hget] at ho
              split at ho
              · rename_i e
                subst e
                simp only [Option.some.injEq] at ho
                exact .inr ⟨cs, cs', hx, hf, ho.symm, fun y hy => List.mem_append_left _ hy⟩
              · rw [hget_append] at ho
                split at ho
                · obtain ⟨es, z, f, h1, h2, h3⟩ := hget_frzUp ho
                  exact .inl ⟨es, z, f, h1, h2, List.mem_append_left _ h3⟩
                · rcases i3 y o ho with ⟨es, z, f, h1, h2, h3⟩ | ⟨c, c', h1, h2, h3, h4⟩
                  · exact .inl ⟨es, z, f, h1, h2, List.mem_append_right _ h3⟩
                  · exact .inr ⟨c, c', h1, h2, h3, fun y hy => List.mem_append_right _ (h4 y hy)⟩
        | parr es z f =>
          simp only [hx, hr, Option.some.injEq] at h
          subst h
          have hbn : boxNs H (x :: r) = boxNs H r := by simp [boxNs, hx]
          rw [hbn]
          exact ⟨i1, i2, i3⟩
        | arr es =>
          simp only [hx, hr, Option.some.injEq] at h
          subst h
          have hbn : boxNs H (x :: r) = boxNs H r := by simp [boxNs, hx]
          rw [hbn]
          exact ⟨i1, i2, i3⟩

section
variable {idm : FuncId → FuncId} {m : NMap} {w : World} {W : Nat → Prop} {H : Hp}

theorem Good.boxes (s : SimH idm m w W H) {ns : List Nm} {b : Hp} (hb : boxUps H ns = some b) (v : AV) : Good idm m w W H { v, up := b } m w (Wf m H (boxNs H ns) W) := by
  obtain ⟨i1, i2, i3⟩ := hget_boxUps hb
  exact {
    k := Keep.refl _ w
    sub := fun i _ h => h.1
    sup := fun i hi hW hn => ⟨hW, fun ⟨x, hx, ⟨es, z, f, hp⟩, hbb⟩ => by
      cases f with
      | false => exact hn ⟨x, _, i2 x hx ⟨es, z, false, hp⟩, hp, rfl, hbb⟩
      | true =>
        obtain ⟨_, _, h⟩ := s.h x _ hp
        rcases h with ⟨h, _⟩ | ⟨b, c, e, h2, h3, h4, h5, h6, h7, h8, h9, h10⟩
        · rw [hbb] at h; cases h
        · rw [hbb] at h2; cases h2; exact h10 rfl hW⟩
    lt := fun i h => s.lt i h.1
    mm := fun _ _ _ => rfl
    up := fun x o ho => by
      rcases i3 x o ho with ⟨es, z, f, h1, rfl, h3⟩ | ⟨cs, cs', h1, h2, rfl, h4⟩
      · refine ⟨?_, fun y hy => by simp [AObj.names] at hy⟩
        obtain ⟨q0, q1, q2⟩ := s.h x _ h1
        refine ⟨q0, q1, ?_⟩
        rcases q2 with q2 | ⟨b, c, e, g2, g3, g4, g5, g6, g7, g8, g9, g10⟩
        · exact .inl q2
        · exact .inr ⟨b, c, e, g2, g3, g4, g5, g6, g7, fun i j e a v he ha hv => (g8 i j e a v he ha hv).keep (Keep.refl (fun _ => False) w) (fun _ h => h.elim) fun _ _ h => h.1,
            fun h => by simp at h, fun _ hx => hx.2 ⟨x, h3, ⟨es, z, f, h1⟩, g2⟩⟩
      · obtain ⟨b, c, e, g1, g2, g3, g4, g5, g6, g7⟩ := s.h x _ h1
        obtain ⟨f1, f2, f3, f4⟩ := frzL1_rep s g3 g6 h2 h4
        refine ⟨⟨b, c, e, g1, g2, f1, f4 g4, g5, f2, g7, fun ⟨y, hy, ⟨es, z, f, hp⟩, hbb⟩ => ?_⟩, fun y hy => ?_⟩
        · have := s.sep x y _ _ b h1 hp g1 hbb
          subst this
          rw [h1] at hp; cases hp
        · exact isSome_app (pg := none) i1 (s.ch x _ y h1 (f3 y hy))
    ups := i1
    b1 := fun x o q ho hq _ => by
      rcases i3 x o ho with ⟨es, z, f, h1, rfl, h3⟩ | ⟨cs, cs', h1, h2, rfl, h4⟩
      · exact ⟨_, h1, hq, fun h => by simp [AObj.frozen] at h⟩
      · exact ⟨_, h1, hq, fun _ => rfl⟩
    b2 := fun x y q hx _ hge hq _ => by
      obtain ⟨o, ho⟩ := i1 x hx
      rcases i3 x o ho with ⟨es, z, f, h1, _⟩ | ⟨cs, cs', h1, _⟩
      · have := (s.h x _ h1).lt hq; omega
      · have := (s.h x _ h1).lt hq; omega
    pgu := fun x h => by simp at h
    ext := fun _ => rfl }

theorem frzL_get : ∀ {cs cs' : List AV}, frzL H cs = some cs' → cs'.length = cs.length ∧ ∀ (i : Nat) (c' : AV), cs'[i]? = some c' → ∃ c, cs[i]? = some c ∧ frz H c = some c'
  | [], cs', h => by simp only [frzL, Option.some.injEq] at h; subst h; exact ⟨rfl, fun i c h => by simp at h⟩
  | v :: r, cs', h => by
    simp only [frzL] at h
    cases hv : frz H v with
    | none => simp [hv] at h
    | some v' => cases hr : frzL H r with
      | none => simp [hv, hr] at h
      | some r' =>
        simp only [hv, hr, Option.some.injEq] at h
        subst h
        obtain ⟨h1, h2⟩ := frzL_get hr
        refine ⟨by simp [h1], fun i c hi => ?_⟩
        cases i with
        | zero => simp at hi; subst hi; exact ⟨v, rfl, hv⟩
        | succ i => simp at hi; obtain ⟨c', hc', e⟩ := h2 i c hi; exact ⟨c', by simpa using hc', e⟩

theorem frzL_reps (s : SimH idm m w W H) {cs cs' : List AV} {vs : Array Value} (h : Reps idm m w W cs vs) (e : frzL H cs = some cs') :
    Reps idm m w (Wf m H (frzNs cs) W) cs' vs ∧ ∀ x ∈ namesL cs', x ∈ namesL cs := by
  obtain ⟨h1, h2⟩ := frzL_get e
  refine ⟨⟨by rw [h1]; exact h.hl, fun i c v hi hv => ?_⟩, fun x hx => ?_⟩
  · obtain ⟨c0, hc0, e0⟩ := h2 i c hi
    exact (frz_rep s (h.h i c0 v hc0 hv) e0 (frzNs_one (List.mem_of_getElem? hc0))).1
  · obtain ⟨c, hc, hx⟩ := mem_namesL.1 hx
    obtain ⟨i, hi⟩ := List.mem_iff_getElem?.1 hc
    obtain ⟨c0, hc0, e0⟩ := h2 i c hi
    have hlt := (List.getElem?_eq_some_iff.1 hc0).1
    have hv := Array.getElem?_eq_getElem (show i < vs.size by rw [h.hl]; exact hlt)
    exact mem_namesL.2 ⟨c0, List.mem_of_getElem? hc0, (frz_rep s (h.h i c0 _ hc0 hv) e0 (frzNs_one (List.mem_of_getElem? hc0))).2 x hx⟩
end

theorem allP_names {cs : List AV} {ps : List PV} (h : allP cs = some ps) : namesL cs = [] ∧ ∀ f, renL f cs = some cs := by
  induction cs generalizing ps with
  | nil => exact ⟨rfl, fun f => rfl⟩
  | cons v r ih =>
    cases v with
    | p v =>
      simp only [allP] at h
      cases hr : allP r with
      | none => simp [hr] at h
      | some q =>
        obtain ⟨h1, h2⟩ := ih hr
        exact ⟨by simp [namesL, AV.names, h1], fun f => by simp [renL, AV.ren, h2]⟩
    | _ => simp [allP] at h

section
variable {P : Program} {idm : FuncId → FuncId} {m : NMap} {w : World} {W : Nat → Prop} {H : Hp} {cf : CF}

/-- What a call comes to, as the caller sees it. -/
def After (P : Program) (idm : FuncId → FuncId) (m : NMap) (w : World) (W : Nat → Prop) (H : Hp) (d : Dl) (v : Value) (w' : World) : Prop :=
  ∃ m' W', Good idm m w W H d m' w' W' ∧ Rep idm m' w' W' d.v v ∧ ∀ y ∈ d.v.names, (hget (d.up ++ pgH d.pg H) y).isSome = true

theorem callEnd_inv {r i : Nat} {ns : List Nm} {ups : Hp} {x : Option CR} {d : Dl} (h : callEnd H r i ns ups x = some d) : ∃ c, x = some c ∧ c.outs.length = ns.length ∧ freeH (ups ++ H) (newUp r i 0 c.news) = true ∧
    ∃ av outs news, c.v.ren (fromExt ns r i) = some av ∧ renOs (fromExt ns r i) c.outs = some outs ∧ renOs (fromExt ns r i) c.news = some news ∧ d = { v := av, up := zipUp ns outs ++ (newUp r i 0 news ++ ups) } := by
  cases x with
  | none => simp [callEnd] at h
  | some c =>
    refine ⟨c, rfl, ?_⟩
    simp only [callEnd] at h
    split at h
    · rename_i v h1 h2 h3
      simp only [Option.some.injEq] at h
      subst h
      rw [h1, h2, h3]
      exact ⟨rfl, rfl, .p v, [], [], rfl, rfl, rfl, rfl⟩
    · rename_i ns _ _ _ _ _
      split at h
      · rename_i hc
        refine ⟨hc.1, hc.2, ?_⟩
        cases h1 : c.v.ren (fromExt ns r i) with
        | none => simp [h1] at h
        | some av => cases h2 : renOs (fromExt ns r i) c.outs with
          | none => simp [h1, h2] at h
          | some outs => cases h3 : renOs (fromExt ns r i) c.news with
            | none => simp [h1, h2, h3] at h
            | some news =>
              simp only [h1, h2, h3, Option.some.injEq] at h
              exact ⟨av, outs, news, rfl, rfl, rfl, h.symm⟩
      · cases h

theorem good_noop (s : SimH idm m w W H) : Good idm m w W H { v := .undef } m w W := Good.id s.lt _

/-- The call itself, behind all that is handed over. -/
theorem call_core (cfok : CFOK P idm cf) (s : SimH idm m w W H) {ups : Hp} {m1 : NMap} {W1 : Nat → Prop} {v0 : AV} (g1 : Good idm m w W H { v := v0, up := ups } m1 w W1) {r i : Nat} {ns : List Nm} {f : FuncId} {args args' : List AV} {os os' : List AObj} {d : Dl} {vs : Array Value}
    (hn : ns.Nodup) (ha : renL (toExt ns) args = some args') (ho : hgets (ups ++ H) ns = some os) (hr : renOs (toExt ns) os = some os') (he : callEnd H r i ns ups (cf f args' os') = some d) (hreps : Reps idm m1 w W1 args vs) :
    CallF P (idm f) vs w (After P idm m w W H d) := by
  have s1 : SimH idm m1 w W1 (ups ++ H) := g1.simH s
  obtain ⟨c, hc, hl, hfr, av, outs, news, e1, e2, e3, rfl⟩ := callEnd_inv he
  obtain ⟨l1, q1⟩ := renL_get ha
  have := cfok f args' os' c hc (mcOf m1 ns) w W1 vs (simH_args s1 hn ho (fun x y h => toExt_get h) hr) ⟨by rw [l1]; exact hreps.hl, fun k x v hx hv => by
      obtain ⟨x0, h1, h2⟩ := q1 k x hx
      exact (hreps.h k x0 v h1 hv).ren _ x h2 fun y _ z hz => by
        obtain ⟨j, rfl, hj⟩ := toExt_get hz
        exact mcOf_ext hj⟩ (fun x hx => by
      obtain ⟨y, _, hy⟩ := namesL_ren _ x args args' ha hx
      obtain ⟨j, rfl, hj⟩ := toExt_get hy
      refine argH_some.2 ⟨j, rfl, ?_⟩
      have := (List.getElem?_eq_some_iff.1 hj).1
      have := (renOs_get hr).1
      have := (hgets_get ho).1
      omega)
  refine this.mono fun v w' hp => ?_
  obtain ⟨m2, W2, g2, h2, h3⟩ := good_after s1 hn ho hr hp e1 e2 e3 hfr
  have := Good.comp s g1 g2
  refine ⟨m2, W2, by simpa [List.append_assoc] using this, h2, fun y hy => ?_⟩
  have := h3 y hy
  simpa [pgH, List.append_assoc] using this

theorem callNs_core (cfok : CFOK P idm cf) (s : SimH idm m w W H) {ups : Hp} {m1 : NMap} {W1 : Nat → Prop} {v0 : AV} (g1 : Good idm m w W H { v := v0, up := ups } m1 w W1) {r i : Nat} {f : FuncId} {args : List AV} {d : Dl} {vs : Array Value}
    (he : callNs cf H r i f args ups = some d) (hreps : Reps idm m1 w W1 args vs) : CallF P (idm f) vs w (After P idm m w W H d) := by
  unfold callNs at he
  cases hns : reach (ups ++ H) 64 (namesL args) [] with
  | none => simp [hns] at he
  | some ns =>
    simp only [hns] at he
    cases ha : renL (toExt ns) args with
    | none => simp [ha] at he
    | some args' => cases ho : hgets (ups ++ H) ns with
      | none => simp [ha, ho] at he
      | some os =>
        simp only [ha, ho] at he
        cases hr : renOs (toExt ns) os with
        | none => simp [hr] at he
        | some os' =>
          simp only [hr] at he
          exact call_core cfok s g1 (reach_nodup hns List.nodup_nil) ha ho hr he hreps

theorem callD_core (cfok : CFOK P idm cf) (s : SimH idm m w W H) {raw : Bool} {r i : Nat} {f : FuncId} {args : List AV} {d : Dl} {vs : Array Value} (he : callD cf raw H r i f args = some d) (hreps : Reps idm m w W args vs) :
    CallF P (idm f) vs w (After P idm m w W H d) := by
  unfold callD at he
  cases hp : allP args with
  | some ps =>
    simp only [hp] at he
    exact call_core cfok s (good_noop s) (ns := []) (os := []) (os' := []) (by simp) ((allP_names hp).2 _) rfl rfl he hreps
  | none =>
    simp only [hp] at he
    cases raw with
    | true => exact callNs_core cfok s (good_noop s) he hreps
    | false =>
      simp only [Bool.false_eq_true, if_false] at he
      cases hf : frzL H args with
      | none => simp [hf] at he
      | some args' =>
        simp only [hf] at he
        cases hns : reach (frzUp H (frzNs args) ++ H) 64 (namesL args') [] with
        | none => simp [hns] at he
        | some ns => cases hb : boxUps (frzUp H (frzNs args) ++ H) ns with
          | none => simp [hns, hb] at he
          | some b =>
            simp only [hns, hb] at he
            have gz := Good.freeze s (frzNs args) .undef
            have s1 : SimH idm m w (Wf m H (frzNs args) W) (frzUp H (frzNs args) ++ H) := gz.simH s
            have gb := Good.boxes s1 hb .undef
            have g1 := Good.comp s gz gb
            obtain ⟨hr1, hr2⟩ := frzL_reps s hreps hf
            exact callNs_core cfok s g1 he ⟨hr1.hl, fun i c v hi hv => (hr1.h i c v hi hv).frz_keep _⟩
end

section
variable {P : Program} {idm : FuncId → FuncId} {N : Nat} {m : NMap} {w : World} {W : Nat → Prop} {st : St} {a : Act} {o : Go.Oper} (s : Sim idm N m w W st a)
include s

theorem ok_call {cf : CF} (cfok : CFOK P idm cf) {raw : FuncId → Bool} (r i : Nat) {x : Operand} {x' : Opd} {args : Array Operand} {args' : List Opd} {tys : Array TypeId} (ho : o.op = .call { callee := .value x, args := args, argTypes := tys })
    (hx : opdL idm x x' = true) (ha : opdsL idm args.toList args' = true) {f : FuncId} {fa fb : List AV} (hf : ev st.T x' = .fn f fa fb) {d : Dl} (hd : callD cf (raw f) st.H r i f (fa ++ evL st.T args' ++ fb) = some d) : OpStep P idm m w W st.H o a d := by
  intro K Q hk
  obtain ⟨h1, _⟩ := opdL_rep hx s
  obtain ⟨g1, g2, g3⟩ := opdsL_rep s ha
  rw [hf] at h1
  generalize hu : a.eval x = u at h1
  cases h1 with
  | fn _ _ _ va vb l1 l2 r1 r2 =>
    have hreps : Reps idm m w W (fa ++ evL st.T args' ++ fb) (va ++ args.map a.eval ++ vb) := Reps.append (Reps.append ⟨l1, r1⟩ ⟨by simpa using g1, fun i c v hc hv => g2 i c v hc (by simpa using hv)⟩) ⟨l2, r2⟩
    have hrun : (execOp a.eval o).run P w = (callFunc (idm f) (va ++ args.map a.eval ++ vb)).run P w := by
      simp [execOp, ho, resolve, Deferred.ofValue, hu, invoke]
    have hK : ∀ v w', After P idm m w W st.H d v w' → K (a.put o.dst v) w' := fun v w' ⟨m', W', h1, h2, h3⟩ => hk v m' w' W' h1 h2 h3
    unfold Oper.wp
    rw [hrun]
    rcases callD_core cfok s.toSimH hd hreps with ⟨v, w', h1, h2⟩ | ⟨h1, h2⟩
    · rw [h1]; exact hK v w' h2
    · rw [h1]
      exact h2.mono fun e w' he => by cases e <;> first | exact hK _ _ he | exact he.elim
end
end Go.Ab
