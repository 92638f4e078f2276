/- A part of the proof (an executor, and what it computes). -/
import Derived.Test.YtmnjnpgmenigiaaGreatAlt
import Derived.Test.YtmnjnpgmenigiaaGreatEv
import Derived.Test.YtmnjnpgmenigiaaGreatB12b445f167
import Derived.Below
set_option linter.all false
/-! slices.Clone. -/
namespace Go.Ab
open Go

def cl0 (z : Nat) : SCode := .reg 0 [{ dst := some 2, op := .mv (.nils z) }]
def cl1 : SCode := .reg 1 [{ dst := some 3, op := .mv (.t 0) }, { dst := some 4, op := .isnil (.t 3) }]
def cl2 (z : Nat) : SCode := .seq (.reg 2 [{ dst := some 2, op := .mv (.nils z) }]) .ret
def cl3 (z : Nat) : SCode := .seq (.reg 3 [{ dst := some 5, op := .bslice true z [] }, { dst := some 6, op := .mv (.t 0) }, { dst := some 7, op := .append z (.t 5) (.t 6) }, { dst := some 2, op := .mv (.t 7) }]) .ret
def clF : SFn := { body := .skip, rv := [.tmp 2] }
def cloneL (P : Program) (idm : FuncId → FuncId) (f : FuncId) (z : Nat) : Bool :=
  match P.funcs[idm f]? with
  | some fn => (match fn.body with
    | some (.seq c0 (.seq (.seq c1 (.cond (.tmp 4) c2 .skip)) c3)) => codeL P idm fn.ntmps c0 (cl0 z) && codeL P idm fn.ntmps c1 cl1 && codeL P idm fn.ntmps c2 (cl2 z) && codeL P idm fn.ntmps c3 (cl3 z)
    | _ => false) && decide (fn.name ≠ "runtime.NumGoroutine") && rvsL P fn.results.toList [.tmp 2]
  | none => false

theorem clone_ok {P : Program} {idm : FuncId → FuncId} {f z : Nat} (h : cloneL P idm f z = true) {es : List PV} (hm : es.length ≤ most)
    {m : NMap} {w : World} {W : Nat → Prop} {vs : Array Value} (hs : SimH idm m w W (argH 0 [])) (hr : Reps idm m w W [.p (.sl z es)] vs) :
    CallF P (idm f) vs w (CallPost idm m w W [] ⟨.p (.sl z es), [], []⟩) := by
  unfold cloneL at h
  split at h
  · rename_i fn hP
    simp only [Bool.and_eq_true, decide_eq_true_eq] at h
    obtain ⟨⟨h1, h2⟩, h3⟩ := h
    split at h1
    · rename_i c0 c1 c2 c3 hb
      simp only [Bool.and_eq_true] at h1
      obtain ⟨⟨⟨l0, l1⟩, l2⟩, l3⟩ := h1
      have hE : EnvOK P idm { fn := fun _ => none } := ⟨(fun f F h => by cases h), (fun f a o c h => by cases h)⟩
      have fin2 : ∃ st2, sexW { fn := fun _ => none } 0 (cl2 z) ⟨[(4, .ub), (3, .p (.sl z [])), (2, .nils z), (0, .p (.sl z []))], []⟩ = some (.ret, st2) ∧ finish clF 0 st2 = some ⟨.p (.sl z []), [], []⟩ := by
        refine ⟨⟨[(2, .nils z), (4, .ub), (3, .p (.sl z [])), (2, .nils z), (0, .p (.sl z []))], []⟩, ?_, ?_⟩
        · simp -implicitDefEqProofs only [go_sem, cl2]
        · simp -implicitDefEqProofs only [go_sem, clF]
      have fin3 : ∀ (es : List PV) (v : AV), es.length ≤ most → ∃ st2, sexW { fn := fun _ => none } 0 (cl3 z) ⟨[(4, v), (3, .p (.sl z es)), (2, .nils z), (0, .p (.sl z es))], []⟩ = some (.ret, st2) ∧ finish clF 0 st2 = some ⟨.p (.sl z es), [], []⟩ := by
        intro es v hm
        have hp : ∃ T, sexW { fn := fun _ => none } 0 (cl3 z) ⟨[(4, v), (3, .p (.sl z es)), (2, .nils z), (0, .p (.sl z es))], []⟩ = some (.ret, ⟨(2, .hsl (.loc 3 0 0) 0 es.length) :: T, [(.loc 3 0 0, some (.parr es z false)), (.loc 3 0 0, some (.parr [] z false))]⟩) := by
          simp -implicitDefEqProofs only [go_sem, cl3, hm, Nat.zero_add]
          exact ⟨_, rfl⟩
        obtain ⟨T, hT⟩ := hp
        refine ⟨_, hT, ?_⟩
        simp -implicitDefEqProofs only [go_sem, clF, List.take_length]
      cases es with
      | nil =>
        exact alt_ok hE (E0 := { fn := fun _ => none }) hP hb h2 l0 l1 l2 l3 (F := clF) h3 (objs := []) (sta := ⟨[(2, .nils z), (0, .p (.sl z []))], []⟩) (st1 := ⟨[(4, .ub), (3, .p (.sl z [])), (2, .nils z), (0, .p (.sl z []))], []⟩)
          (by
            simp -implicitDefEqProofs only [go_sem, cl0])
          (by
            simp -implicitDefEqProofs only [go_sem, cl1])
           (.inl rfl) (fun _ => fin2) (fun _ => fin3 [] .ub hm) hs hr (by simp [namesL, AV.names])
      | cons e es =>
        exact alt_ok hE (E0 := { fn := fun _ => none }) hP hb h2 l0 l1 l2 l3 (F := clF) h3 (objs := []) (sta := ⟨[(2, .nils z), (0, .p (.sl z (e :: es)))], []⟩) (st1 := ⟨[(4, .p (.bool false)), (3, .p (.sl z (e :: es))), (2, .nils z), (0, .p (.sl z (e :: es)))], []⟩)
          (by
            simp -implicitDefEqProofs only [go_sem, cl0])
          (by
            simp -implicitDefEqProofs only [go_sem, cl1])
           (.inr (.inr rfl)) (fun h => absurd rfl h) (fun _ => fin3 (e :: es) _ hm) hs hr (by simp [namesL, AV.names])
    · cases h1
  · cases h
end Go.Ab

namespace Go.Ab.S
open Go Go.Ab
/-- Functions that are handed slices as they are. -/
def rawB (f : Nat) : Bool :=
  if f < 105 then false
  else if f < 187 then decide (f = 105) || decide (f = 106) || decide (f = 110) || decide (f = 114) || decide (f = 152)
  else if f < 254 then decide (f = 187) || decide (f = 188) || decide (f = 189) || decide (f = 191) || decide (f = 192) || decide (f = 195) || decide (f = 196) || decide (f = 227) || decide (f = 229) || decide (f = 231)
  else if f < 280 then !(decide (f = 262) || decide (f = 263)) else if f < 320 then decide (f = 297) || (decide (300 ≤ f) && decide (f < 308)) || decide (317 ≤ f) else false
/-- An environment with the code of these functions. -/
class EnvS (E : Env) : Prop where
  h : ∀ f F, fnSA f = some F → E.fn f = some F
  raw : ∀ f, rawB f = false → E.raw f = false
  n208 : E.fn 208 = none
  x208 : ∀ es : List PV, es.length ≤ most → E.ex 208 [.p (.sl 1 es)] [] = some ⟨.p (.sl 1 es), [], []⟩
variable {E : Env} [EnvS E]

theorem raw_S (f : Nat) (h : rawB f = false) : E.raw f = false := EnvS.raw f h
attribute [go_sem] raw_S rawB
theorem e208 (es : List PV) (h : es.length ≤ most) : callW E 208 [.p (.sl 1 es)] [] = some ⟨.p (.sl 1 es), [], []⟩ := by
  rw [callW_eq, EnvS.n208]
  exact EnvS.x208 es h
theorem wrap64 {x : Int} (h1 : -9223372036854775808 ≤ x) (h2 : x ≤ 9223372036854775807) : IntKind.i64.wrap x = x := by
  simp [IntKind.wrap, IntKind.bits, IntKind.signed]
  omega

/-- A number is drawn, and the next place. -/
def dV (l : List Int) (a : Nat) (n : Int) : Int := match l[a]? with
  | some x => if n < 1 then 0 else (x.tmod n + n).tmod n
  | none => 0
def dA (l : List Int) (a : Nat) (n : Int) : Nat := match l[a]? with
  | some _ => if n < 1 then a else a + 1
  | none => a
theorem dV_nonneg (l : List Int) (a : Nat) (n : Int) : 0 ≤ dV l a n := by
  unfold dV
  split
  · split
    · omega
    · rename_i x _ h
      have := Int.tmod_lt_of_pos x (show 0 < n by omega)
      have h2 : -n < x.tmod n := by
        have := Int.lt_tmod_of_pos x (show 0 < n by omega)
        omega
      exact Int.tmod_nonneg _ (by omega)
  · omega
theorem dV_lt (l : List Int) (a : Nat) (n : Int) (h : 1 ≤ n) : dV l a n < n := by
  unfold dV
  split
  · rw [if_neg (by omega)]
    exact Int.tmod_lt_of_pos _ (by omega)
  · omega
theorem dA_le (l : List Int) (a : Nat) (n : Int) (h : a ≤ l.length) : dA l a n ≤ l.length := by
  unfold dA
  split
  · rename_i x hx
    have := (List.getElem?_eq_some_iff.1 hx).1
    split <;> omega
  · exact h

theorem e28 (l : List Int) (a : Nat) (n : Int) (hl : l.length ≤ 800) (ha : a ≤ l.length) (hn : n ≤ 1000000) : callW E 28 [.ptr (.ext 0) 0, .p (.int .i64 n)] [.box [.p (.sl 1 (l.map (.int .i64))), .p (.int .i64 a)]] = some ⟨.p (.int .i64 (dV l a n)), [.box [.p (.sl 1 (l.map (.int .i64))), .p (.int .i64 (dA l a n))]], []⟩ := by
  rw [callW_eq, EnvS.h 28 F28 rfl]
  have hlen : (((l.map (PV.int .i64)).length : Nat) : Int) = (l.length : Int) := by simp
  unfold dV dA
  by_cases h1 : a < l.length
  · have h1' : ¬ (l.length : Int) ≤ (a : Int) := by omega
    have hg : l[a]? = some l[a] := by simp [h1]
    by_cases h2 : n < 1
    · simp -implicitDefEqProofs only [go_sem, F28, s28, s28_1, hlen, h1', h2, hg]
    · have hw : IntKind.i64.wrap ((a : Int) + 1) = ((a + 1 : Nat) : Int) := by rw [wrap64 (by omega) (by omega)]; omega
      have hw2 : IntKind.i64.wrap (((a + 1 : Nat) : Int) - 1) = (a : Int) := by rw [wrap64 (by omega) (by omega)]; omega
      have ha0 : (0 : Int) ≤ a := by omega
      have hm : (l.map (PV.int .i64))[a]? = some (.int .i64 l[a]) := by simp [h1]
      have hn0 : n ≠ 0 := by omega
      have b1 := Int.tmod_lt_of_pos l[a] (show 0 < n by omega)
      have b2 := Int.lt_tmod_of_pos l[a] (show 0 < n by omega)
      have hw3 : IntKind.i64.wrap (l[a].tmod n + n) = l[a].tmod n + n := wrap64 (by omega) (by omega)
      simp -implicitDefEqProofs only [go_sem, F28, s28, s28_1, hlen, h1', h2, hg, hw, hw2, ha0, hm, hn0, hw3]
  · have h1' : (l.length : Int) ≤ (a : Int) := by omega
    have hg : l[a]? = none := by simp; omega
    simp -implicitDefEqProofs only [go_sem, F28, s28, s28_1, hlen, h1', hg]

attribute [go_sem] List.length_map
theorem e31 (l : List Int) (a : Nat) (lo hi : Int) (hl : l.length ≤ 800) (ha : a ≤ l.length) (h1 : 0 ≤ lo) (h2 : lo ≤ 100000) (h3 : 0 ≤ hi) (h4 : hi ≤ 100000) : callW E 31 [.ptr (.ext 0) 0, .p (.int .i64 lo), .p (.int .i64 hi)] [.box [.p (.sl 1 (l.map (.int .i64))), .p (.int .i64 a)]] = some ⟨.p (.int .i64 (lo + dV l a (hi - lo + 1))), [.box [.p (.sl 1 (l.map (.int .i64))), .p (.int .i64 (dA l a (hi - lo + 1)))]], []⟩ := by
  rw [callW_eq, EnvS.h 31 F31 rfl]
  have w1 : IntKind.i64.wrap (hi - lo) = hi - lo := wrap64 (by omega) (by omega)
  have w2 : IntKind.i64.wrap (hi - lo + 1) = hi - lo + 1 := wrap64 (by omega) (by omega)
  have e := e28 (E := E) l a (hi - lo + 1) hl ha (by omega)
  have w3 : IntKind.i64.wrap (lo + dV l a (hi - lo + 1)) = lo + dV l a (hi - lo + 1) := by
    have := dV_nonneg l a (hi - lo + 1)
    by_cases h : 1 ≤ hi - lo + 1
    · have := dV_lt l a _ h
      exact wrap64 (by omega) (by omega)
    · have : dV l a (hi - lo + 1) = 0 := by
        unfold dV; split
        · rw [if_pos (by omega)]
        · rfl
      exact wrap64 (by omega) (by omega)
  simp -implicitDefEqProofs only [go_sem, F31, s31, w1, w2, w3, e]

theorem e117 (l : List Int) (a : Nat) (es : List ByteArray) (hl : l.length ≤ 800) (ha : a ≤ l.length) (h0 : 0 < es.length) (h1 : es.length ≤ 1000) : callW E 117 [.ptr (.ext 0) 0, .p (.sl 1 (es.map .str))] [.box [.p (.sl 1 (l.map (.int .i64))), .p (.int .i64 a)]] = some ⟨.p (.str (es[(dV l a es.length).toNat]?.getD ByteArray.empty)), [.box [.p (.sl 1 (l.map (.int .i64))), .p (.int .i64 (dA l a es.length))]], []⟩ := by
  rw [callW_eq, EnvS.h 117 F117 rfl]
  have e := e28 (E := E) l a es.length hl ha (by omega)
  have b1 := dV_nonneg l a es.length
  have b2 := dV_lt l a es.length (by omega)
  have hg : (es.map PV.str)[(dV l a es.length).toNat]? = some (.str (es[(dV l a es.length).toNat]?.getD ByteArray.empty)) := by
    have : (dV l a es.length).toNat < es.length := by omega
    simp [this]
  simp -implicitDefEqProofs only [go_sem, F117, s117, e, b1, hg]

def valN (k : Int) : ByteArray := [(⟨#[97]⟩ : ByteArray), ⟨#[98]⟩, ⟨#[99]⟩, ⟨#[97, 97]⟩][k.toNat]?.getD ByteArray.empty
theorem e30 (l : List Int) (a : Nat) (hl : l.length ≤ 800) (ha : a ≤ l.length) : callW E 30 [.ptr (.ext 0) 0] [.box [.p (.sl 1 (l.map (.int .i64))), .p (.int .i64 a)]] = some ⟨.p (.str (valN (dV l a 4))), [.box [.p (.sl 1 (l.map (.int .i64))), .p (.int .i64 (dA l a 4))]], []⟩ := by
  rw [callW_eq, EnvS.h 30 F30 rfl]
  have e := e117 (E := E) l a [(⟨#[97]⟩ : ByteArray), ⟨#[98]⟩, ⟨#[99]⟩, ⟨#[97, 97]⟩] hl ha (by decide) (by decide)
  simp only [List.map_cons, List.map_nil, List.length_cons, List.length_nil] at e
  simp -implicitDefEqProofs only [go_sem, F30, s30, e]
  rfl

end Go.Ab.S

/-! From the executor to the given statement. -/
namespace Go.Ab
open Go

theorem calls_true {P : Program} {idm : FuncId → FuncId} {E : Env} (hE : EnvOK P idm E) {f : FuncId} {F : SFn} (hF : E.fn f = some F) {args : List AV} {vs : Array Value} {w : World}
    (h : callW E f args [] = some ⟨.p (.bool true), [], []⟩) (hr : Reps idm (fun _ => ⟨none, 0, 0⟩) w (fun _ => False) args vs) (hn : namesL args = []) :
    Calls P (idm f) vs w fun e w' => e = .returned (.bool true) ∧ RowKit.Below w.heap.size w w' := by
  have h1 := callW_ok hE f args [] _ h (fun _ => ⟨none, 0, 0⟩) w (fun _ => False) vs
    { h := fun x o h => by simp [argH, hget] at h, sep := fun x y o o' b h => by simp [argH, hget] at h, ch := fun y o x h => by simp [argH, hget] at h, lt := fun b h => h.elim } hr (by rw [hn]; simp)
  have hent : (callFunc (idm f) vs).run P w = .ok (.enter (idm f) vs) w := by
    have hfl := hE.fn f F hF
    unfold fnL at hfl
    cases hP : P.funcs[idm f]? with
    | none => simp [hP] at hfl
    | some fn =>
      simp only [hP, Bool.and_eq_true, decide_eq_true_eq] at hfl
      obtain ⟨⟨h1, h2⟩, h3⟩ := hfl
      cases hb : fn.body with
      | none => simp [hb] at h1
      | some body => simp [callFunc, hP, hb, h2]
  rcases h1 with ⟨v, w', h2, h3⟩ | ⟨_, h2⟩
  · rw [hent] at h2; cases h2
  · refine h2.mono fun e w' he => ?_
    cases e with
    | returned v =>
      obtain ⟨m', W', _, _, si, hrep, _⟩ := he
      have := hrep.bool_inv
      subst this
      exact ⟨rfl, ⟨si.tr.os, si.tr.tape, si.tr.output, si.tr.size, fun k hk => si.tr.block k hk fun ⟨x, o, h, _⟩ => by simp [argH, hget] at h⟩⟩
    | panicked chain => exact he.elim
    | outgrown => exact he.elim

/-- A slice of whole numbers that came in. -/
theorem rep_ints {idm : FuncId → FuncId} {m : NMap} {w : World} {k : IntKind} {a : Addr} {len cap : Nat} {zs : List Int} (hl : len ≤ cap) (hz : len ≤ zs.length) (hc : ∀ i, i < zs.length → w.cell? (a.add i) = some (.int k (zs.getD i 0))) :
    Rep idm m w (fun _ => False) (.p (.sl 1 ((zs.take len).map (.int k)))) (.slice (some a) len cap) := by
  have hgi : ∀ {i : Nat} {e : PV}, ((zs.take len).map (PV.int k))[i]? = some e → i < zs.length ∧ e = .int k (zs.getD i 0) := by
    intro i e hi
    rw [List.getElem?_map] at hi
    obtain ⟨n, hn, rfl⟩ := Option.map_eq_some_iff.1 hi
    rw [List.getElem?_take] at hn
    split at hn
    · have hlt := (List.getElem?_eq_some_iff.1 hn).1
      exact ⟨hlt, by simp [List.getD, hn]⟩
    · cases hn
  have hone : ∀ {i j : Nat} {e c : PV}, ((zs.take len).map (PV.int k))[i]? = some e → e.cells[j]? = some c → j = 0 ∧ i < zs.length ∧ c = .int k (zs.getD i 0) := by
    intro i j e c hi hj
    obtain ⟨h1, rfl⟩ := hgi hi
    cases j with
    | zero => simp [PV.cells] at hj; exact ⟨rfl, h1, hj.symm⟩
    | succ j => simp [PV.cells] at hj
  refine .p _ _ (.sl 1 _ (some a) len cap a (fun i _ => .int k (zs.getD i 0)) (by simp; omega) hl (fun e he => ?_) (fun hne => ⟨rfl, fun h => h, ?_⟩) (fun i j e c hi hj => ?_) fun i j e c hi hj => ?_)
  · obtain ⟨n, _, rfl⟩ := List.mem_map.1 he
    exact ⟨rfl, by simp [PV.cells, PV.flat]⟩
  · have h0 : 0 < zs.length := by
      cases zs with
      | nil => simp at hne
      | cons z zs => simp
    have := hc 0 h0
    have h1 := World.block_lt_of_cell? w _ this
    rwa [add_block] at h1
  · obtain ⟨rfl, h1, rfl⟩ := hone hi hj
    simpa using hc i h1
  · obtain ⟨rfl, h1, rfl⟩ := hone hi hj
    exact .int ..

theorem rep_nil_ints {idm : FuncId → FuncId} {m : NMap} {w : World} : Rep idm m w (fun _ => False) (.p (.sl 1 [])) (.slice none 0 0) :=
  .p _ _ (.sl 1 [] none 0 0 ⟨0, 0, none⟩ (fun _ _ => .nilFunc) rfl (Nat.le_refl _) (fun _ h => by cases h) (fun h => absurd rfl h) (fun i j e c h => by simp at h) (fun i j e c h => by simp at h))
theorem reps1 {idm : FuncId → FuncId} {m : NMap} {w : World} {W : Nat → Prop} {a : AV} {v : Value} (h : Rep idm m w W a v) : Reps idm m w W [a] #[v] :=
  ⟨rfl, fun i c u hc hu => by cases i <;> simp at hc hu; subst hc; subst hu; exact h⟩
end Go.Ab
