/- A part of the proof: an executor over plain data, shown sound for the model, and what it computes of the functions. -/
import Derived.Test.YtmnjnpgmenigiaaExec
set_option linter.all false
/-! The limit of the executor: no rounds to count. -/
set_option linter.unusedVariables false
set_option linter.unusedSimpArgs false
namespace Go.Ab
open Go

/-- Calls that were asked, and what they came to. -/
structure Ask where
  f : FuncId
  a : List AV
  o : List AObj
  c : CR
def Ask.sat (cf : CF) (q : Ask) : Prop := cf q.f q.a q.o = some q.c
def Sats (cf : CF) (Q : List Ask) : Prop := ∀ q ∈ Q, q.sat cf

theorem Sats.nil (cf : CF) : Sats cf [] := fun _ h => by cases h
theorem Sats.append {cf : CF} {Q R : List Ask} : Sats cf (Q ++ R) ↔ Sats cf Q ∧ Sats cf R := by
  unfold Sats
  constructor
  · exact fun h => ⟨fun q hq => h q (List.mem_append_left _ hq), fun q hq => h q (List.mem_append_right _ hq)⟩
  · rintro ⟨h, g⟩ q hq
    rcases List.mem_append.1 hq with h' | h'
    · exact h q h'
    · exact g q h'

/-- What comes out hangs on finitely many calls. -/
structure FinQ {α : Type} (Φ : CF → Option α) : Prop where
  mk :: (out : ∀ cf r, Φ cf = some r → ∃ Q, Sats cf Q ∧ ∀ cf', Sats cf' Q → Φ cf' = some r)

theorem FinQ.const {α : Type} (x : Option α) : FinQ fun _ => x := ⟨fun cf _ h => ⟨[], Sats.nil cf, fun _ _ => h⟩⟩

theorem FinQ.ask (f : FuncId) (a : List AV) (o : List AObj) : FinQ fun cf => cf f a o :=
  ⟨fun _ r h => ⟨[⟨f, a, o, r⟩], by
    refine ⟨fun q hq => ?_, fun cf' h' => h' _ List.mem_cons_self⟩
    rcases List.mem_singleton.1 hq with rfl
    exact h⟩⟩

theorem FinQ.bind {α β : Type} {Φ : CF → Option α} {Ψ : α → CF → Option β} (h : FinQ Φ) (g : ∀ a, FinQ (Ψ a)) :
    FinQ fun cf => obind (Φ cf) fun a => Ψ a cf := by
  refine ⟨fun cf r hr => ?_⟩
  cases hp : Φ cf with
  | none => simp [hp, obind_none] at hr
  | some a =>
    simp only [hp, obind_some] at hr
    obtain ⟨Q, hQ, h1⟩ := h.out cf a hp
    obtain ⟨R, hR, h2⟩ := (g a).out cf r hr
    refine ⟨Q ++ R, Sats.append.2 ⟨hQ, hR⟩, fun cf' hs => ?_⟩
    obtain ⟨s1, s2⟩ := Sats.append.1 hs
    simp only [h1 cf' s1, obind_some]
    exact h2 cf' s2

theorem FinQ.map {α β : Type} {Φ : CF → Option α} (h : FinQ Φ) (g : Option α → Option β) (h0 : g none = none) : FinQ fun cf => g (Φ cf) := by
  refine ⟨fun cf r hr => ?_⟩
  cases hp : Φ cf with
  | none => rw [hp, h0] at hr; cases hr
  | some a =>
    obtain ⟨Q, hQ, h1⟩ := h.out cf a hp
    exact ⟨Q, hQ, fun cf' hs => by rw [h1 cf' hs]; rw [hp] at hr; exact hr⟩

theorem callNs_fin (H : Hp) (r i : Nat) (f : FuncId) (args : List AV) (ups : Hp) : FinQ fun cf => callNs cf H r i f args ups := by
  unfold callNs
  split
  · exact FinQ.const _
  · split
    · split
      · exact (FinQ.ask f _ _).map (callEnd H r i _ ups) rfl
      · exact FinQ.const _
    · exact FinQ.const _

theorem callD_fin (raw : Bool) (H : Hp) (r i : Nat) (f : FuncId) (args : List AV) : FinQ fun cf => callD cf raw H r i f args := by
  unfold callD
  cases allP args with
  | some _ => exact (FinQ.ask f _ _).map (callEnd H r i [] []) rfl
  | none =>
    cases raw with
    | true => exact callNs_fin ..
    | false =>
      cases frzL H args with
      | none => exact FinQ.const _
      | some args' =>
        dsimp only
        cases reach (frzUp H (frzNs args) ++ H) 64 (namesL args') [] with
        | none => exact FinQ.const _
        | some ns =>
          dsimp only
          cases boxUps (frzUp H (frzNs args) ++ H) ns with
          | none => exact FinQ.const _
          | some b => exact callNs_fin ..

theorem opD_fin (raw : FuncId → Bool) (r i : Nat) (T : Tm) (H : Hp) (o : SOp) : FinQ fun cf => opD cf raw r i T H o := by
  cases o with
  | call f args =>
    simp only [opD]
    split
    · exact callD_fin ..
    · exact FinQ.const _
  | len s x => cases s <;> exact FinQ.const _
  | _ => exact FinQ.const _

theorem operX_fin (raw : FuncId → Bool) (r i : Nat) (o : SOper) (st : St) : FinQ fun cf => operX cf raw r i o st := by
  unfold operX
  split
  · exact (opD_fin raw r i st.T st.H o.op).bind fun d => FinQ.const (some (putD o.dst d st.T st.H))
  · exact FinQ.const _
  · exact FinQ.const _

theorem opsX_fin (raw : FuncId → Bool) (r : Nat) (ops : List SOper) : ∀ (i : Nat) (st : St), FinQ fun cf => opsX cf raw r i ops st := by
  induction ops with
  | nil => exact fun i st => FinQ.const _
  | cons o rest ih =>
    intro i st
    simp only [opsX]
    exact (operX_fin raw r i o st).bind fun st => ih (i + 1) st

theorem outX_fin (raw : FuncId → Bool) (r i : Nat) (o : SOper) (st : St) : FinQ fun cf => outX cf raw r i o st := by
  unfold outX
  split
  · exact (opD_fin raw r i st.T st.H o.op).bind fun d => FinQ.const (some (d, fp raw st.T st.H o.op))
  · exact FinQ.const _
  · exact FinQ.const _

theorem opsLX_fin (raw : FuncId → Bool) (r : Nat) (ops : List SOper) : ∀ (i : Nat) (st : St) (l : Log), FinQ fun cf => opsLX cf raw r i ops st l := by
  induction ops with
  | nil => exact fun i st l => FinQ.const _
  | cons o rest ih =>
    intro i st l
    simp only [opsLX]
    exact (outX_fin raw r i o st).bind fun x => ih (i + 1) _ _

theorem drawX_fin (raw : FuncId → Bool) (r : Nat) (ops : List SOper) (pairs : List (Nat × Nat)) (st : St) : FinQ fun cf => drawX cf raw r ops pairs st := by
  cases pairs with
  | nil => exact opsX_fin raw r ops 0 st
  | cons p ps =>
    unfold drawX
    exact (opsLX_fin raw r ops 0 st []).bind fun x => FinQ.const (if (p :: ps).all (pairOk r x.2) then some x.1 else none)

/-- As FinQ, with rounds. -/
structure FinK {α : Type} (Φ : CF → Nat → Option α) : Prop where
  mk :: (out : ∀ cf k r, Φ cf k = some r → ∃ Q, Sats cf Q ∧ ∀ cf' k', k ≤ k' → Sats cf' Q → Φ cf' k' = some r)

theorem FinQ.toK {α : Type} {Φ : CF → Option α} (h : FinQ Φ) : FinK fun cf _ => Φ cf :=
  ⟨fun cf _ r hr => let ⟨Q, h1, h2⟩ := h.out cf r hr; ⟨Q, h1, fun cf' _ _ hs => h2 cf' hs⟩⟩

theorem loopN_fin {f : CF → Nat → St → Option (Ex × St)} (h : ∀ st, FinK fun cf k => f cf k st) (j : Nat) :
    ∀ (cf : CF) (k : Nat) (st : St) (r : Ex × St), loopN (f cf k) j st = some r →
      ∃ Q, Sats cf Q ∧ ∀ cf' k' j', k ≤ k' → j ≤ j' → Sats cf' Q → loopN (f cf' k') j' st = some r := by
  induction j with
  | zero => intro cf k st r hr; simp [loopN] at hr
  | succ j ih =>
    intro cf k st r hr
    simp only [loopN] at hr
    cases hf : f cf k st with
    | none => simp [hf] at hr
    | some x =>
      obtain ⟨e, st'⟩ := x
      obtain ⟨Q, hQ, h1⟩ := (h st).out cf k _ hf
      cases e with
      | nrm =>
        simp only [hf] at hr
        obtain ⟨R, hR, h2⟩ := ih cf k st' r hr
        refine ⟨Q ++ R, Sats.append.2 ⟨hQ, hR⟩, fun cf' k' j' hk hj hs => ?_⟩
        obtain ⟨s1, s2⟩ := Sats.append.1 hs
        obtain ⟨m, rfl⟩ : ∃ m, j' = m + 1 := ⟨j' - 1, by omega⟩
        simp only [loopN, h1 cf' k' hk s1]
        exact h2 cf' k' m hk (by omega) s2
      | ex id =>
        simp only [hf] at hr
        refine ⟨Q, hQ, fun cf' k' j' hk hj hs => ?_⟩
        obtain ⟨m, rfl⟩ : ∃ m, j' = m + 1 := ⟨j' - 1, by omega⟩
        simp only [loopN, h1 cf' k' hk hs]
        exact hr
      | ret =>
        simp only [hf] at hr
        refine ⟨Q, hQ, fun cf' k' j' hk hj hs => ?_⟩
        obtain ⟨m, rfl⟩ : ∃ m, j' = m + 1 := ⟨j' - 1, by omega⟩
        simp only [loopN, h1 cf' k' hk hs]
        exact hr

theorem sexec_fin (raw : FuncId → Bool) (n : Nat) (c : SCode) : ∀ st, FinK fun cf k => sexec cf raw n k c st := by
  induction c with
  | skip => exact fun st => (FinQ.const _).toK
  | exit id => exact fun st => (FinQ.const _).toK
  | ret => exact fun st => (FinQ.const _).toK
  | cut kt kh => exact fun st => (FinQ.const _).toK
  | reg r ops => exact fun st => ((opsX_fin raw r ops 0 st).bind fun st => FinQ.const (some (Ex.nrm, st))).toK
  | draw r ops pairs => exact fun st => ((drawX_fin raw r ops pairs st).bind fun st => FinQ.const (some (Ex.nrm, st))).toK
  | seq a b iha ihb =>
    refine fun st => ⟨fun cf k r hr => ?_⟩
    simp only [sexec, seqX, blkX] at hr ⊢
    cases ha : sexec cf raw n k a st with
    | none => simp [ha] at hr
    | some x =>
      obtain ⟨e, st'⟩ := x
      obtain ⟨Q, hQ, h1⟩ := (iha st).out cf k _ ha
      cases e with
      | nrm =>
        simp only [ha] at hr
        obtain ⟨R, hR, h2⟩ := (ihb st').out cf k r hr
        refine ⟨Q ++ R, Sats.append.2 ⟨hQ, hR⟩, fun cf' k' hk hs => ?_⟩
        obtain ⟨s1, s2⟩ := Sats.append.1 hs
        simp only [h1 cf' k' hk s1]
        exact h2 cf' k' hk s2
      | ex id => simp only [ha] at hr; exact ⟨Q, hQ, fun cf' k' hk hs => by simp only [h1 cf' k' hk hs]; exact hr⟩
      | ret => simp only [ha] at hr; exact ⟨Q, hQ, fun cf' k' hk hs => by simp only [h1 cf' k' hk hs]; exact hr⟩
  | cond c a b iha ihb =>
    refine fun st => ⟨fun cf k r hr => ?_⟩
    simp only [sexec, onB] at hr ⊢
    split at hr
    · rename_i c' hc
      split at hr
      · rename_i ht
        obtain ⟨Q, hQ, h1⟩ := (iha st).out cf k r hr
        exact ⟨Q, hQ, fun cf' k' hk hs => by simp only [ht, if_true]; exact h1 cf' k' hk hs⟩
      · rename_i ht
        obtain ⟨Q, hQ, h1⟩ := (ihb st).out cf k r hr
        exact ⟨Q, hQ, fun cf' k' hk hs => by simp only [ht]; exact h1 cf' k' hk hs⟩
    · cases hr
  | blk id b ih =>
    refine fun st => ⟨fun cf k r hr => ?_⟩
    simp only [sexec, seqX, blkX] at hr ⊢
    cases hb : sexec cf raw n k b st with
    | none => simp [hb] at hr
    | some x =>
      obtain ⟨Q, hQ, h1⟩ := (ih st).out cf k _ hb
      refine ⟨Q, hQ, fun cf' k' hk hs => ?_⟩
      simp only [h1 cf' k' hk hs]
      rw [hb] at hr
      exact hr
  | trim kn kr ke kh b ih =>
    refine fun st => ⟨fun cf k r hr => ?_⟩
    simp only [sexec] at hr ⊢
    cases hb : sexec cf raw n k b st with
    | none => simp [hb, trimX] at hr
    | some x =>
      obtain ⟨Q, hQ, h1⟩ := (ih st).out cf k _ hb
      refine ⟨Q, hQ, fun cf' k' hk hs => ?_⟩
      simp only [h1 cf' k' hk hs]
      rw [hb] at hr
      exact hr
  | loop kt kh b ih =>
    refine fun st => ⟨fun cf k r hr => ?_⟩
    simp only [sexec, seqX, blkX] at hr ⊢
    have hf : ∀ st, FinK fun cf k => obind (cutX n kt kh st) fun st => sexec cf raw n k b st := by
      intro st
      cases cutX n kt kh st with
      | none => exact (FinQ.const none).toK
      | some st => exact ih st
    obtain ⟨Q, hQ, h1⟩ := loopN_fin hf k cf k st r hr
    exact ⟨Q, hQ, fun cf' k' hk hs => h1 cf' k' k' hk hk hs⟩

/-! ### The limit -/
def CF.le (a b : CF) : Prop := ∀ f x o r, a f x o = some r → b f x o = some r
theorem CF.le.sats {a b : CF} (h : CF.le a b) {Q : List Ask} (hs : Sats a Q) : Sats b Q := fun q hq => h _ _ _ _ (hs q hq)

theorem acall_le (E : Env) (k : Nat) : CF.le (acall E k) (acall E (k + 1)) := by
  induction k with
  | zero => intro f x o r h; simp [acall] at h
  | succ k ih =>
    intro f x o r h
    simp only [acall, endX] at h ⊢
    cases hF : E.fn f with
    | none => simp only [hF] at h ⊢; exact h
    | some F =>
      simp only [hF] at h ⊢
      cases hs : sexec (acall E k) E.raw o.length k F.body { T := argT 0 x, H := argH 0 o } with
      | none => simp [hs] at h
      | some y =>
        obtain ⟨Q, hQ, h1⟩ := (sexec_fin E.raw o.length F.body _).out _ _ _ hs
        rw [hs] at h
        have h2 := h1 (acall E (k + 1)) (k + 1) (by omega) (ih.sats hQ)
        simp only [acall, endX] at h2
        simp only [h2]
        exact h

theorem acall_mono (E : Env) {j k : Nat} (h : j ≤ k) : CF.le (acall E j) (acall E k) := by
  induction k with
  | zero => obtain rfl : j = 0 := by omega
            exact fun _ _ _ _ h => h
  | succ k ih =>
    rcases Nat.lt_or_ge j (k + 1) with h' | h'
    · exact fun f x o r hr => acall_le E k f x o r (ih (by omega) f x o r hr)
    · obtain rfl : j = k + 1 := by omega
      exact fun _ _ _ _ h => h

open Classical in
noncomputable def lim {α : Type} (g : Nat → Option α) : Option α := if h : ∃ r k, g k = some r then some (Classical.choose h) else none

theorem lim_iff {α : Type} {g : Nat → Option α} (hm : ∀ j k r, j ≤ k → g j = some r → g k = some r) (r : α) : lim g = some r ↔ ∃ k, g k = some r := by
  unfold lim
  constructor
  · intro h
    split at h
    · rename_i hx
      have := Classical.choose_spec hx
      simp only [Option.some.injEq] at h
      rw [h] at this
      exact this
    · cases h
  · rintro ⟨k, hk⟩
    have hx : ∃ r k, g k = some r := ⟨r, k, hk⟩
    rw [dif_pos hx]
    obtain ⟨k', hk'⟩ := Classical.choose_spec hx
    have h1 := hm k (max k k') r (Nat.le_max_left ..) hk
    have h2 := hm k' (max k k') _ (Nat.le_max_right ..) hk'
    rw [h1] at h2
    exact h2.symm

noncomputable def callW (E : Env) : CF := fun f x o => lim fun k => acall E k f x o
noncomputable def sexW (E : Env) (n : Nat) (c : SCode) (st : St) : Option (Ex × St) := lim fun k => sexec (acall E k) E.raw n k c st

theorem callW_iff (E : Env) (f : FuncId) (x : List AV) (o : List AObj) (r : CR) : callW E f x o = some r ↔ ∃ k, acall E k f x o = some r :=
  lim_iff (fun _ _ r h hr => acall_mono E h f x o r hr) r

theorem sexec_up (E : Env) {n : Nat} {c : SCode} {st : St} {r : Ex × St} {j k : Nat} (h : j ≤ k) (hr : sexec (acall E j) E.raw n j c st = some r) :
    sexec (acall E k) E.raw n k c st = some r := by
  obtain ⟨Q, hQ, h1⟩ := (sexec_fin E.raw n c st).out _ _ _ hr
  exact h1 _ _ h ((acall_mono E h).sats hQ)

theorem sexW_iff (E : Env) (n : Nat) (c : SCode) (st : St) (r : Ex × St) : sexW E n c st = some r ↔ ∃ k, sexec (acall E k) E.raw n k c st = some r :=
  lim_iff (fun _ _ _ h hr => sexec_up E h hr) r

theorem sats_limit (E : Env) {Q : List Ask} (h : Sats (callW E) Q) : ∃ k, Sats (acall E k) Q := by
  induction Q with
  | nil => exact ⟨0, Sats.nil _⟩
  | cons q Q ih =>
    obtain ⟨k, hk⟩ := ih fun q' hq => h q' (List.mem_cons_of_mem _ hq)
    obtain ⟨j, hj⟩ := (callW_iff E _ _ _ _).1 (h q List.mem_cons_self)
    refine ⟨max k j, fun q' hq => ?_⟩
    cases hq with
    | head => exact acall_mono E (Nat.le_max_right k j) _ _ _ _ hj
    | tail _ hq => exact acall_mono E (Nat.le_max_left k j) _ _ _ _ (hk q' hq)

theorem le_limit (E : Env) (k : Nat) : CF.le (acall E k) (callW E) := fun f x o r h => (callW_iff E f x o r).2 ⟨k, h⟩

theorem FinQ.limit {α : Type} {Φ : CF → Option α} (h : FinQ Φ) (E : Env) (r : α) : Φ (callW E) = some r ↔ ∃ k, Φ (acall E k) = some r := by
  constructor
  · intro hr
    obtain ⟨Q, hQ, h1⟩ := h.out _ _ hr
    obtain ⟨k, hk⟩ := sats_limit E hQ
    exact ⟨k, h1 _ hk⟩
  · rintro ⟨k, hk⟩
    obtain ⟨Q, hQ, h1⟩ := h.out _ _ hk
    exact h1 _ ((le_limit E k).sats hQ)

theorem opt_ext {α : Type} {x y : Option α} (h : ∀ r, x = some r ↔ y = some r) : x = y := by
  cases x with
  | some a => exact ((h a).1 rfl).symm
  | none => cases y with
    | none => rfl
    | some b => exact (h b).2 rfl

/-! ### The limit's equations -/
section
variable (E : Env) (n : Nat) (st : St)

theorem sexW_const {c : SCode} {x : Option (Ex × St)} (h : ∀ cf k, sexec cf E.raw n k c st = x) : sexW E n c st = x :=
  opt_ext fun r => by
    rw [sexW_iff]
    exact ⟨fun ⟨k, hk⟩ => (h _ k) ▸ hk, fun hr => ⟨0, (h _ 0).trans hr⟩⟩

theorem sexW_skip : sexW E n .skip st = some (.nrm, st) := sexW_const E n st fun _ _ => rfl
theorem sexW_exit (id : Nat) : sexW E n (.exit id) st = some (.ex id, st) := sexW_const E n st fun _ _ => rfl
theorem sexW_ret : sexW E n .ret st = some (.ret, st) := sexW_const E n st fun _ _ => rfl
theorem sexW_cut (kt : List Nat) (kh : List Nm) : sexW E n (.cut kt kh) st = obind (cutX n kt kh st) fun st => some (.nrm, st) := sexW_const E n st fun _ _ => rfl

theorem sexW_reg (r : Nat) (ops : List SOper) : sexW E n (.reg r ops) st = obind (opsX (callW E) E.raw r 0 ops st) fun st => some (.nrm, st) :=
  opt_ext fun x => by
    rw [sexW_iff]
    exact (((opsX_fin E.raw r ops 0 st).bind fun st => FinQ.const (some (Ex.nrm, st))).limit E x).symm

theorem sexW_draw (r : Nat) (ops : List SOper) (pairs : List (Nat × Nat)) : sexW E n (.draw r ops pairs) st = obind (drawX (callW E) E.raw r ops pairs st) fun st => some (.nrm, st) :=
  opt_ext fun x => by
    rw [sexW_iff]
    exact (((drawX_fin E.raw r ops pairs st).bind fun st => FinQ.const (some (Ex.nrm, st))).limit E x).symm

theorem sexW_seq (a b : SCode) : sexW E n (.seq a b) st = seqX (sexW E n a st) fun st => sexW E n b st := by
  refine opt_ext fun x => ?_
  rw [sexW_iff]
  constructor
  · rintro ⟨k, hk⟩
    simp only [sexec, seqX, blkX] at hk
    cases ha : sexec (acall E k) E.raw n k a st with
    | none => simp [ha] at hk
    | some y =>
      obtain ⟨e, st'⟩ := y
      rw [(sexW_iff E n a st _).2 ⟨k, ha⟩]
      rw [ha] at hk
      cases e with
      | nrm => exact (sexW_iff E n b st' x).2 ⟨k, hk⟩
      | _ => exact hk
  · intro h
    cases ha : sexW E n a st with
    | none => simp [ha, seqX, blkX] at h
    | some y =>
      obtain ⟨e, st'⟩ := y
      obtain ⟨k, hk⟩ := (sexW_iff E n a st _).1 ha
      rw [ha] at h
      cases e with
      | nrm =>
        obtain ⟨j, hj⟩ := (sexW_iff E n b st' x).1 h
        refine ⟨max k j, ?_⟩
        simp only [sexec, sexec_up E (Nat.le_max_left k j) hk]
        exact sexec_up E (Nat.le_max_right k j) hj
      | ex id => exact ⟨k, by simp only [sexec, hk]; exact h⟩
      | ret => exact ⟨k, by simp only [sexec, hk]; exact h⟩

theorem sexW_cond (c : Opd) (a b : SCode) : sexW E n (.cond c a b) st = onB (ev st.T c) (sexW E n a st) (sexW E n b st) := by
  refine opt_ext fun x => ?_
  rw [sexW_iff]
  simp only [sexec, seqX, blkX]
  generalize ev st.T c = v
  unfold onB
  split
  · rename_i c'
    cases c' with
    | true => simp only [if_true]; exact (sexW_iff ..).symm
    | false => simp only [Bool.false_eq_true, if_false]; exact (sexW_iff ..).symm
  · simp

theorem sexW_blk (id : Nat) (b : SCode) : sexW E n (.blk id b) st = blkX id (sexW E n b st) := by
  refine opt_ext fun x => ?_
  rw [sexW_iff]
  constructor
  · rintro ⟨k, hk⟩
    simp only [sexec, seqX, blkX] at hk
    cases ha : sexec (acall E k) E.raw n k b st with
    | none => simp [ha] at hk
    | some y =>
      rw [(sexW_iff E n b st _).2 ⟨k, ha⟩]
      rw [ha] at hk
      exact hk
  · intro h
    cases ha : sexW E n b st with
    | none => simp [ha, seqX, blkX] at h
    | some y =>
      obtain ⟨k, hk⟩ := (sexW_iff E n b st _).1 ha
      rw [ha] at h
      exact ⟨k, by simp only [sexec, hk]; exact h⟩

theorem sexW_trim (kn kr : List Nat) (ke : List (Nat × List Nat)) (kh : List Nm) (b : SCode) : sexW E n (.trim kn kr ke kh b) st = trimX n kn kr ke kh (sexW E n b st) := by
  refine opt_ext fun x => ?_
  rw [sexW_iff]
  constructor
  · rintro ⟨k, hk⟩
    simp only [sexec] at hk
    cases ha : sexec (acall E k) E.raw n k b st with
    | none => simp [ha, trimX] at hk
    | some y =>
      rw [(sexW_iff E n b st _).2 ⟨k, ha⟩]
      rw [ha] at hk
      exact hk
  · intro h
    cases ha : sexW E n b st with
    | none => simp [ha, trimX] at h
    | some y =>
      obtain ⟨k, hk⟩ := (sexW_iff E n b st _).1 ha
      rw [ha] at h
      exact ⟨k, by simp only [sexec, hk]; exact h⟩

/-- A round behind a round. -/
theorem sexW_loop (kt : List Nat) (kh : List Nm) (b : SCode) : sexW E n (.loop kt kh b) st = match cutX n kt kh st with
    | none => none
    | some st => match sexW E n b st with
      | some (.nrm, st) => sexW E n (.loop kt kh b) st
      | r => r := by
  refine opt_ext fun x => ?_
  rw [sexW_iff]
  have step : ∀ k j st, loopN (fun st => obind (cutX n kt kh st) fun st => sexec (acall E k) E.raw n k b st) (j + 1) st = match cutX n kt kh st with
      | none => none
      | some st => match sexec (acall E k) E.raw n k b st with
        | some (.nrm, st) => loopN (fun st => obind (cutX n kt kh st) fun st => sexec (acall E k) E.raw n k b st) j st
        | r => r := by
    intro k j st
    simp only [loopN]
    cases cutX n kt kh st with
    | none => rfl
    | some st => rfl
  constructor
  · rintro ⟨k, hk⟩
    simp only [sexec, seqX, blkX] at hk
    cases k with
    | zero => simp [loopN] at hk
    | succ k =>
      rw [step] at hk
      cases hc : cutX n kt kh st with
      | none => simp [hc] at hk
      | some st1 =>
        simp only [hc] at hk ⊢
        cases hb : sexec (acall E (k + 1)) E.raw n (k + 1) b st1 with
        | none => simp [hb] at hk
        | some y =>
          obtain ⟨e, st2⟩ := y
          rw [(sexW_iff E n b st1 _).2 ⟨k + 1, hb⟩]
          rw [hb] at hk
          cases e with
          | nrm =>
            refine (sexW_iff ..).2 ⟨k + 1, ?_⟩
            simp only [sexec, seqX, blkX]
            simp only at hk
            have hf : ∀ st, FinK fun cf k => obind (cutX n kt kh st) fun st => sexec cf E.raw n k b st := by
              intro st
              cases cutX n kt kh st with
              | none => exact (FinQ.const none).toK
              | some st => exact sexec_fin E.raw n b st
            obtain ⟨Q, hQ, h1⟩ := loopN_fin hf k _ _ _ _ hk
            exact h1 _ _ _ (Nat.le_refl _) (by omega) hQ
          | ex id => exact hk
          | ret => exact hk
  · intro h
    cases hc : cutX n kt kh st with
    | none => simp [hc] at h
    | some st1 =>
      simp only [hc] at h
      cases hb : sexW E n b st1 with
      | none => simp [hb] at h
      | some y =>
        obtain ⟨e, st2⟩ := y
        obtain ⟨k, hk⟩ := (sexW_iff E n b st1 _).1 hb
        rw [hb] at h
        cases e with
        | nrm =>
          simp only at h
          obtain ⟨j, hj⟩ := (sexW_iff ..).1 h
          simp only [sexec, seqX, blkX] at hj
          refine ⟨max k j + 1, ?_⟩
          simp only [sexec, seqX, blkX]
          rw [step]
          simp only [hc]
          rw [sexec_up E (show k ≤ max k j + 1 by omega) hk]
          simp only
          have hf : ∀ st, FinK fun cf k => obind (cutX n kt kh st) fun st => sexec cf E.raw n k b st := by
            intro st
            cases cutX n kt kh st with
            | none => exact (FinQ.const none).toK
            | some st => exact sexec_fin E.raw n b st
          obtain ⟨Q, hQ, h1⟩ := loopN_fin hf j _ _ _ _ hj
          exact h1 _ _ _ (by omega) (by omega) ((acall_mono E (by omega)).sats hQ)
        | ex id =>
          refine ⟨k + 1, ?_⟩
          simp only [sexec, seqX, blkX]
          rw [step]
          simp only [hc]
          rw [sexec_up E (show k ≤ k + 1 by omega) hk]
          exact h
        | ret =>
          refine ⟨k + 1, ?_⟩
          simp only [sexec, seqX, blkX]
          rw [step]
          simp only [hc]
          rw [sexec_up E (show k ≤ k + 1 by omega) hk]
          exact h
end

theorem callW_eq (E : Env) (f : FuncId) (x : List AV) (o : List AObj) : callW E f x o = match E.fn f with
    | none => E.ex f x o
    | some F => endX F o.length (sexW E o.length F.body { T := argT 0 x, H := argH 0 o }) := by
  refine opt_ext fun r => ?_
  rw [callW_iff]
  constructor
  · rintro ⟨k, hk⟩
    cases k with
    | zero => simp [acall] at hk
    | succ k =>
      simp only [acall, endX] at hk
      cases hF : E.fn f with
      | none => simp only [hF] at hk ⊢; exact hk
      | some F =>
        simp only [hF] at hk ⊢
        cases hs : sexec (acall E k) E.raw o.length k F.body { T := argT 0 x, H := argH 0 o } with
        | none => simp [hs] at hk
        | some y =>
          rw [(sexW_iff ..).2 ⟨k, hs⟩]
          rw [hs] at hk
          exact hk
  · intro h
    cases hF : E.fn f with
    | none => simp only [hF] at h; exact ⟨1, by simp only [acall, hF]; exact h⟩
    | some F =>
      simp only [hF] at h
      cases hs : sexW E o.length F.body { T := argT 0 x, H := argH 0 o } with
      | none => simp [hs, endX] at h
      | some y =>
        obtain ⟨k, hk⟩ := (sexW_iff ..).1 hs
        rw [hs] at h
        refine ⟨k + 1, ?_⟩
        simp only [acall, endX, hF, hk]
        exact h

end Go.Ab
