/- A part of the proof: an executor over plain data, shown sound for the model, and what it computes of the functions. -/
import Derived.Test.YtmnjnpgmenigiaaEnd
import Derived.Below
set_option linter.all false
/-! From the executor to the given statement. -/
set_option linter.unusedVariables false
set_option linter.unusedSimpArgs false
namespace Go.Ab
open Go

theorem calls_true {P : Program} {idm : FuncId → FuncId} {E : Env} (hE : EnvOK P idm E) {f : FuncId} {F : SFn} (hF : E.fn f = some F) {args : List AV} {vs : Array Value} {w : World}
    (h : callW E f args [] = some ⟨.p (.bool true), [], []⟩) (hr : Reps idm (fun _ => ⟨none, 0, 0⟩) w (fun _ => False) args vs) (hn : namesL args = []) :
    Calls P (idm f) vs w fun e w' => e = .returned (.bool true) ∧ RowKit.Below w.heap.size w w' := by
  have h1 := callW_ok hE f args [] _ h (fun _ => ⟨none, 0, 0⟩) w (fun _ => False) vs
    { h := fun x o h => by simp [argH, hget] at h, sep := fun x y o o' b h => by simp [argH, hget] at h, ch := fun y o x h => by simp [argH, hget] at h, lt := fun b h => h.elim } hr (by rw [hn]; simp)
  have hent : (callFunc (idm f) vs).run P w = .ok (.enter (idm f) vs) w := by
    have hfl := hE.fn f F hF
    unfold fnL at hfl
    cases hP : P.funcs[idm f]? with
    | none => simp [hP] at hfl
    | some fn =>
      simp only [hP, Bool.and_eq_true, decide_eq_true_eq] at hfl
      obtain ⟨⟨h1, h2⟩, h3⟩ := hfl
      cases hb : fn.body with
      | none => simp [hb] at h1
      | some body => simp [callFunc, hP, hb, h2]
  rcases h1 with ⟨v, w', h2, h3⟩ | ⟨_, h2⟩
  · rw [hent] at h2; cases h2
  · refine h2.mono fun e w' he => ?_
    cases e with
    | returned v =>
      obtain ⟨m', W', _, _, si, hrep, _⟩ := he
      have := hrep.bool_inv
      subst this
      exact ⟨rfl, ⟨si.tr.os, si.tr.tape, si.tr.output, si.tr.size, fun k hk => si.tr.block k hk fun ⟨x, o, h, _⟩ => by simp [argH, hget] at h⟩⟩
    | panicked chain => exact he.elim
    | outgrown => exact he.elim

/-- A slice of whole numbers that came in. -/
theorem rep_ints {idm : FuncId → FuncId} {m : NMap} {w : World} {k : IntKind} {a : Addr} {len cap : Nat} {zs : List Int} (hl : len ≤ cap) (hz : len ≤ zs.length) (hc : ∀ i, i < zs.length → w.cell? (a.add i) = some (.int k (zs.getD i 0))) :
    Rep idm m w (fun _ => False) (.p (.sl 1 ((zs.take len).map (.int k)))) (.slice (some a) len cap) := by
  have hgi : ∀ {i : Nat} {e : PV}, ((zs.take len).map (PV.int k))[i]? = some e → i < zs.length ∧ e = .int k (zs.getD i 0) := by
    intro i e hi
    rw [List.getElem?_map] at hi
    obtain ⟨n, hn, rfl⟩ := Option.map_eq_some_iff.1 hi
    rw [List.getElem?_take] at hn
    split at hn
    · have hlt := (List.getElem?_eq_some_iff.1 hn).1
      exact ⟨hlt, by simp [List.getD, hn]⟩
    · cases hn
  have hone : ∀ {i j : Nat} {e c : PV}, ((zs.take len).map (PV.int k))[i]? = some e → e.cells[j]? = some c → j = 0 ∧ i < zs.length ∧ c = .int k (zs.getD i 0) := by
    intro i j e c hi hj
    obtain ⟨h1, rfl⟩ := hgi hi
    cases j with
    | zero => simp [PV.cells] at hj; exact ⟨rfl, h1, hj.symm⟩
    | succ j => simp [PV.cells] at hj
  refine .p _ _ (.sl 1 _ (some a) len cap a (fun i _ => .int k (zs.getD i 0)) (by simp; omega) hl (fun e he => ?_) (fun hne => ⟨rfl, fun h => h, ?_⟩) (fun i j e c hi hj => ?_) fun i j e c hi hj => ?_)
  · obtain ⟨n, _, rfl⟩ := List.mem_map.1 he
    exact ⟨rfl, by simp [PV.cells, PV.flat]⟩
  · have h0 : 0 < zs.length := by
      cases zs with
      | nil => simp at hne
      | cons z zs => simp
    have := hc 0 h0
    have h1 := World.block_lt_of_cell? w _ this
    rwa [add_block] at h1
  · obtain ⟨rfl, h1, rfl⟩ := hone hi hj
    simpa using hc i h1
  · obtain ⟨rfl, h1, rfl⟩ := hone hi hj
    exact .int ..

theorem rep_nil_ints {idm : FuncId → FuncId} {m : NMap} {w : World} : Rep idm m w (fun _ => False) (.p (.sl 1 [])) (.slice none 0 0) :=
  .p _ _ (.sl 1 [] none 0 0 ⟨0, 0, none⟩ (fun _ _ => .nilFunc) rfl (Nat.le_refl _) (fun _ h => by cases h) (fun h => absurd rfl h) (fun i j e c h => by simp at h) (fun i j e c h => by simp at h))
theorem rep_int {idm : FuncId → FuncId} {m : NMap} {w : World} {W : Nat → Prop} (k : IntKind) (n : Int) : Rep idm m w W (.p (.int k n)) (.int k n) := .p _ _ (.int k n)

theorem reps1 {idm : FuncId → FuncId} {m : NMap} {w : World} {W : Nat → Prop} {a : AV} {v : Value} (h : Rep idm m w W a v) : Reps idm m w W [a] #[v] :=
  ⟨rfl, fun i c u hc hu => by cases i <;> simp at hc hu; subst hc; subst hu; exact h⟩
theorem reps2 {idm : FuncId → FuncId} {m : NMap} {w : World} {W : Nat → Prop} {a b : AV} {v u : Value} (h : Rep idm m w W a v) (g : Rep idm m w W b u) : Reps idm m w W [a, b] #[v, u] :=
  Reps.append (reps1 h) (reps1 g)
theorem reps3 {idm : FuncId → FuncId} {m : NMap} {w : World} {W : Nat → Prop} {a b c : AV} {v u x : Value} (h : Rep idm m w W a v) (g : Rep idm m w W b u) (f : Rep idm m w W c x) : Reps idm m w W [a, b, c] #[v, u, x] :=
  Reps.append (reps2 h g) (reps1 f)

end Go.Ab
