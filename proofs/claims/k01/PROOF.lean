import PyProof.Rows.All
import Wide.All
import OpenK.AllK
import Wide.FinOn
import HandS.ForMost
import HandS.Wide
import HandS.WideBits
import HandS.EndBits
import HandS.IsInst
import PySem.Challenge.RW_twodivisions_k01_five_rules_of_division
set_option Elab.async false
set_option maxRecDepth 100000
set_option maxHeartbeats 4000000
set_option linter.all false
namespace My
open PySem L2
/-! rules and relations that all the laws share -/
section
variable {X : Cx}
theorem mulOk_small {x : Str} {n : Int} (h0 : -(2 ^ 62) ≤ n) (h1 : n < 2 ^ 20) (hx : x.length ≤ 16) : MulOk x n := by
  refine ⟨?_, fun h2 _ => ?_, fun h2 _ => ?_⟩
  · rw [decide_eq_false (by omega), decide_eq_false (by omega)]
    rfl
  · have e : (2 ^ 63 - 1 : Int) / n ≥ 16 := by
      rw [ge_iff_le, Int.le_ediv_iff_mul_le (by omega)]
      omega
    omega
  · unfold Builtin.Str.tooLong
    rw [sizeLine_eq]
    refine decide_eq_false ?_
    have e : x.length * n.toNat ≤ 16 * n.toNat := Nat.mul_le_mul_right _ hx
    omega
/-- text * int -/
def rRepS : R2 := fun x y H Q => ∃ (z : Str) (n : Int), x = .str z ∧ y = .int n ∧ -(2 ^ 62) ≤ n ∧ n < 2 ^ 20 ∧ z.length ≤ 16 ∧ Q (.str (Txt.mul z n)) H
theorem op_repS : OpR X (binaryOp .Mult) rRepS := by
  intro pins s σ H x y u v Q I rx ry h
  obtain ⟨z, n, rfl, rfl, h0, h1, h2, q⟩ := h
  obtain ⟨t, rfl⟩ := rx
  obtain ⟨t', rfl⟩ := ry
  exact SB.mul (mulOk_small h0 h1 h2) fun t'' k => ⟨.str _, H, I.tok k, ⟨t'', rfl⟩, q⟩
end
/-- the turns of a text -/
theorem for_its {x : Str} {g : TG} {tb : TS} {D : Ends} {σ : L2.St} {H : Hp} (Pv : Nat → L2.St → Hp → Prop) (h0 : Pv 0 σ H)
    (hs : ∀ i c σ H, x.cps.toList[i]? = some c → Pv i σ H → g (.str ⟨#[c]⟩) σ H fun σ2 H2 => tb { D with nx := Pv (i + 1), ct := Pv (i + 1), bk := D.nx } σ2 H2) (hd : ∀ σ H, Pv x.cps.toList.length σ H → D.nx σ H) :
    ∃ W : Nat → Nat → L2.St → Hp → Prop, (∃ m, W 0 m σ H) ∧ ∀ i m σ H, W i m σ H →
      ((Its x).stop i H ∧ D.nx σ H) ∨ ((Its x).go i H ∧ ∃ N : L2.St → Hp → Prop, (∀ σ' H', N σ' H' → ∃ m', m' < m ∧ W (i + 1) m' σ' H') ∧ ∀ y H', (Its x).yld i H y H' → g y σ H' fun σ2 H2 => tb { D with nx := N, ct := N, bk := D.nx } σ2 H2) := by
  have en : x.cps.toList.length = x.cps.size := Array.length_toList
  refine ⟨fun i m σ H => m = x.cps.size - i ∧ i ≤ x.cps.size ∧ Pv i σ H, ⟨_, rfl, Nat.zero_le _, h0⟩, ?_⟩
  rintro i m σ H ⟨rfl, hi, p⟩
  by_cases hlt : i < x.cps.size
  · refine .inr ⟨hlt, Pv (i + 1), fun σ' H' p' => ⟨x.cps.size - (i + 1), by omega, rfl, hlt, p'⟩, fun y H' hy => ?_⟩
    obtain ⟨e, c, hc, ey⟩ := hy
    subst e ey
    exact hs i c σ _ (by rw [Array.getElem?_toList]; exact hc) p
  · have e : i = x.cps.size := by omega
    refine .inl ⟨by show x.cps.size ≤ i; omega, hd σ H ?_⟩
    rw [en, ← e]
    exact p
/-- what stands elsewhere than at p is as it was -/
def Kp (p : Addr) (H H' : Hp) : Prop := ∀ b o, b ≠ p → H b = some o → H' b = some o
theorem Kp.refl {p : Addr} {H : Hp} : Kp p H H := fun _ _ _ h => h
theorem Kp.trans {p : Addr} {H H1 H2 : Hp} (a : Kp p H H1) (b : Kp p H1 H2) : Kp p H H2 := fun c o n h => b c o n (a c o n h)
theorem Kp.put {p : Addr} {H H1 : Hp} {o : HO} (a : Kp p H H1) : Kp p H (upd H1 p o) := fun c u n h => by
  rw [upd_ne n]
  exact a c u n h
theorem Kp.new {p q : Addr} {H H1 : Hp} {o : HO} (a : Kp p H H1) (hq : H1 q = none) : Kp p H (upd H1 q o) := fun c u n h => by
  rw [upd_ne (ne_of_none (a c u n h) hq)]
  exact a c u n h
theorem Kp.seq {p : Addr} {K : PySem.W.Frag} {H H' : Hp} {a : Addr} {xs : List V} (e : Kp p H H') (n : a ≠ p) (h : SqL K H a xs) : SqL K H' a xs := by
  rcases h with (h | ⟨o, h⟩) | h
  · exact .inl (.inl (e _ _ n h))
  · exact .inl (.inr ⟨o, e _ _ n h⟩)
  · exact .inr h
theorem Kp.of_same {p : Addr} {H H' : Hp} (h : Same H H') : Kp p H H' := fun b o _ e => h b o e
/-- a pool of draws stands at p -/
def Pool (H : Hp) (p : Addr) : Prop := ∃ c s : Int, H p = some (.lst [.int c, .int s]) ∧ 0 ≤ s ∧ s < 2147483647
theorem Pool.new {H : Hp} {p q : Addr} {o : HO} (h : Pool H p) (hq : H q = none) : Pool (upd H q o) p := by
  obtain ⟨c, s, e, r⟩ := h
  exact ⟨c, s, by rw [upd_ne (ne_of_none e hq)]; exact e, r⟩
theorem Pool.same {H H' : Hp} {p : Addr} (h : Pool H p) (e : Same H H') : Pool H' p := by
  obtain ⟨c, s, z, r⟩ := h
  exact ⟨c, s, e _ _ z, r⟩
theorem Pool.put {H : Hp} {p : Addr} {c s : Int} (h0 : 0 ≤ s) (h1 : s < 2147483647) : Pool (upd H p (.lst [.int c, .int s])) p := ⟨c, s, upd_same, h0, h1⟩
theorem Pool.putM {H : Hp} {p : Addr} {c s : Int} : Pool (upd H p (.lst [.int c, .int (s % 2147483647)])) p := Pool.put (Int.emod_nonneg _ (by decide)) (Int.emod_lt_of_pos _ (by decide))
/-- behind draws: the pool at p, all else as it was -/
def Dr (p : Addr) (H H' : Hp) : Prop := Kp p H H' ∧ Pool H' p
theorem Dr.refl {p : Addr} {H : Hp} (h : Pool H p) : Dr p H H := ⟨Kp.refl, h⟩
theorem Dr.trans {p : Addr} {H H1 H2 : Hp} (a : Dr p H H1) (b : Dr p H1 H2) : Dr p H H2 := ⟨a.1.trans b.1, b.2⟩
theorem Dr.new {p q : Addr} {H H1 : Hp} {o : HO} (a : Dr p H H1) (hq : H1 q = none) : Dr p H (upd H1 q o) := ⟨a.1.new hq, a.2.new hq⟩
theorem Dr.same {p : Addr} {H H1 H2 : Hp} (a : Dr p H H1) (s : Same H1 H2) : Dr p H H2 := ⟨a.1.trans (Kp.of_same s), a.2.same s⟩
theorem Dr.free {p q : Addr} {H H1 : Hp} (a : Dr p H H1) (h : H1 q = none) : q ≠ p ∧ H q = none := by
  obtain ⟨k, c, s, e, _⟩ := a
  have n : q ≠ p := (ne_of_none e h).symm
  refine ⟨n, ?_⟩
  cases z : H q with
  | none => rfl
  | some o =>
    rw [k _ _ n z] at h
    cases h
/-- what H doesn't know may change -/
theorem Dr.mut {p q : Addr} {H H1 : Hp} {o : HO} (a : Dr p H H1) (n : q ≠ p ∧ H q = none) : Dr p H (upd H1 q o) := by
  obtain ⟨k, c, s, e, r⟩ := a
  refine ⟨fun b u nb hb => ?_, c, s, ?_, r⟩
  · rw [upd_ne (ne_of_none hb n.2)]
    exact k b u nb hb
  · rw [upd_ne n.1.symm]
    exact e
/-- the promise of a draw -/
def spDraw : Sp := fun vs H Q _ => ∃ (p : Addr) (m : Int), vs = [.ref p, .int m] ∧ Pool H p ∧ 0 < m ∧ m < 2 ^ 100 ∧ ∀ (d : Int) (H' : Hp), 0 ≤ d → d < m → Dr p H H' → Q (.int d) H'
def spPool (K : PySem.W.Frag) : Sp := fun vs H Q _ => ∃ (a : Addr) (ns : List Int) (k : Nat), vs = [.ref a, .int (k : Int)] ∧ SqL K H a (ns.map V.int) ∧ k < 64 ∧
  ∀ (p : Addr) (H' : Hp), H p = none → Same H H' → Pool H' p → Q (.ref p) H'
theorem atI_map {ns : List Int} {k : Nat} (h : k < ns.length) : atI (ns.map V.int) (k : Int) = some (.int (ns.getD k 0)) := by
  refine atI_nat ?_
  rw [List.getElem?_map, List.getElem?_eq_getElem h, List.getD_eq_getElem?_getD, List.getElem?_eq_getElem h]
  rfl
theorem rel_abs {u : Value} {x : V} (h : absV u = some x) : RelV x u := by
  cases u <;> simp only [absV, Option.some.injEq, reduceCtorEq] at h <;> subst h <;> first | rfl | exact ⟨_, rfl⟩
theorem vals_abs : ∀ {us : List Value} {xs : List V}, us.map absV = xs.map some → Vals xs us
  | [], [], _ => .nil
  | [], _ :: _, h => by simp at h
  | _ :: _, [], h => by simp at h
  | u :: us, x :: xs, h => by
    simp only [List.map_cons, List.cons.injEq] at h
    exact .cons (rel_abs h.1) (vals_abs h.2)
local macro_rules | `(tactic| walk_at "side") => `(tactic| first | assumption | omega | decide | (show (0 : Int) < _; decide))
local macro_rules | `(tactic| walk_at "rd") => `(tactic| repeat (first
  | refine ⟨_, rfl, ?_⟩
  | refine ⟨_, _, rfl, rfl, ?_⟩
  | refine ⟨_, _, rfl, ?_⟩
  | refine ⟨rfl, ?_⟩))
/-- the promise of a choice -/
def spChoose (K : PySem.W.Frag) : Sp := fun vs H Q _ => ∃ (p l : Addr) (ys : List V), vs = [.ref p, .ref l] ∧ Pool H p ∧ SqL K H l ys ∧ ys ≠ [] ∧ ys.length ≤ 1000 ∧ l ≠ p ∧ ∀ (v : V) (H' : Hp), v ∈ ys → Dr p H H' → Q v H'
theorem atI_some {ys : List V} {d : Int} (h0 : 0 ≤ d) (h1 : d < (ys.length : Int)) : ∃ v ∈ ys, atI ys d = some v := by
  have hd : d.toNat < ys.length := by omega
  refine ⟨ys[d.toNat], List.getElem_mem hd, ?_⟩
  have h := atI_nat (List.getElem?_eq_getElem hd)
  rw [Int.toNat_of_nonneg h0] at h
  exact h
theorem iteDT {c A B : Prop} [Decidable c] (h : c) (a : A) : if decide c = true then A else B := by rw [if_pos (decide_eq_true h)]; exact a
theorem iteDF {c A B : Prop} [Decidable c] (h : ¬ c) (b : B) : if decide c = true then A else B := by rw [if_neg (fun z => h (of_decide_eq_true z))]; exact b
theorem iteND {c A B : Prop} [Decidable c] (h : ¬ c) (a : A) : if (!decide c) = true then A else B := by rw [if_pos (by rw [decide_eq_false h]; rfl)]; exact a
theorem iteB {c : Bool} {A B : Prop} (h1 : c = true → A) (h2 : c = false → B) : if c = true then A else B := by
  cases c with
  | true => rw [if_pos rfl]; exact h1 rfl
  | false => rw [if_neg Bool.false_ne_true]; exact h2 rfl
theorem iteBF {c : Bool} {A B : Prop} (h : c = false) (b : B) : if c = true then A else B := by rw [h, if_neg Bool.false_ne_true]; exact b
theorem iteBT {c : Bool} {A B : Prop} (h : c = true) (a : A) : if c = true then A else B := by rw [h, if_pos rfl]; exact a
/-- a and b, as a value -/
theorem ite_and {c d : Bool} {R : Prop} {Q : VK} {H : Hp} (hR : c = true → Q (.bl d) H → R) (q : Q (.bl (c && d)) H) : if c = true then R else Q (.bl false) H := by
  cases c with
  | true => rw [if_pos rfl]; exact hR rfl q
  | false => rw [if_neg Bool.false_ne_true]; exact q
theorem ite_or {c d : Bool} {R : Prop} {Q : VK} {H : Hp} (hR : c = false → Q (.bl d) H → R) (q : Q (.bl (c || d)) H) : if c = true then Q (.bl true) H else R := by
  cases c with
  | true => rw [if_pos rfl]; exact q
  | false => rw [if_neg Bool.false_ne_true]; exact hR rfl q
theorem dec_int {i j : Int} : decide (V.int i = V.int j) = decide (i = j) := decide_eq_decide.mpr ⟨fun e => V.int.inj e, fun e => by rw [e]⟩
theorem dec_str {i j : Str} : decide (V.str i = V.str j) = decide (i = j) := decide_eq_decide.mpr ⟨fun e => V.str.inj e, fun e => by rw [e]⟩
theorem Dr.keep {p : Addr} {H0 H1 H2 : Hp} (a : Dr p H1 H2) (s : Same H0 H1) (hp : H0 p = none) : Same H0 H2 := fun b o hb => a.1 b o (ne_of_none hb hp) (s b o hb)
theorem same_new {H0 H1 : Hp} {q : Addr} {o : HO} (s : Same H0 H1) (hq : H1 q = none) : Same H0 (upd H1 q o) := fun b u hb => by
  rw [upd_ne (ne_of_none (s b u hb) hq)]
  exact s b u hb
theorem same_mut {H0 H1 : Hp} {q : Addr} {o : HO} (s : Same H0 H1) (hq : H0 q = none) : Same H0 (upd H1 q o) := fun b u hb => by
  rw [upd_ne (ne_of_none hb hq)]
  exact s b u hb
theorem max_min {n k : Int} (h0 : 0 ≤ n) (hk : 1 ≤ k) : 0 ≤ (if (if k < n then k else n) > 1 then (if k < n then k else n) else 1) ∧ (if (if k < n then k else n) > 1 then (if k < n then k else n) else 1) ≤ k := by
  split <;> split at * <;> omega

/-! match over written texts -/
structure PCs (X : Cx) (cs : List MatchCase) (t : V → TS) : Prop where
  run : ∀ (first : Bool) (pins : List (Addr × Obj)) (s : Shared) (σ : L2.St) (H : Hp) (D : Ends) (v : V) (u : Value), Inv X pins σ H s → RelV v u → t v D σ H → wpAny (model X.prog X.w) X.A (matchCases cs X.env u first) (SP X pins D) X.xe s
section
variable {X : Cx}
theorem pcs_nil : PCs X [] (fun _ => tNext) := ⟨fun _ _ _ σ H _ _ _ I _ h => wpAny_matchCases_nil ⟨σ, H, I, h⟩⟩
def tCaseS (z : Str) (tb : TS) (tr : V → TS) : V → TS := fun v D σ H => ∃ x : Str, v = .str x ∧ (if decide (x = z) = true then tb D σ H else tr v D σ H)
theorem pcs_str {z : Str} {j p p'} {body : List Stmt} {rest : List MatchCase} {tb : TS} {tr : V → TS} (hb : PSs X body tb) (hr : PCs X rest tr) :
    PCs X (⟨.MatchValue (.Constant (.str z) j p) p', none, body⟩ :: rest) (tCaseS z tb tr) := by
  refine ⟨fun first pins s σ H D v u I rv h => ?_⟩
  obtain ⟨x, rfl, h⟩ := h
  refine wpAny_matchCases_cons (wpAny_matchPattern_Value ?_)
  refine thn ((pe_str (X := X)).run pins s σ H (fun y H' => y = .str z ∧ H' = H) I ⟨rfl, rfl⟩) fun w s1 ⟨y, H1, I1, r1, e1, e2⟩ => ?_
  subst e1 e2
  refine thn (op_eq (X := X) pins s1 σ H1 (.str x) (.str z) _ _ (fun b H' => b = .bl (decide (V.str x = V.str z)) ∧ H' = H1) I1 rv r1 ⟨rfl, rfl, rfl⟩) fun w2 s2 ⟨b, H2, I2, r2, e3, e4⟩ => ?_
  subst e3 e4
  cases r2
  refine wpAny_truthy_bool ?_
  have ed : decide (V.str x = V.str z) = decide (x = z) := decide_eq_decide.mpr ⟨fun e => V.str.inj e, fun e => by rw [e]⟩
  rw [ed]
  cases hc : decide (x = z) with
  | true =>
    rw [hc, if_pos rfl] at h
    exact wpAny_assignInOrder_none (hb.run pins s2 σ H2 D I2 h)
  | false =>
    rw [hc, if_neg Bool.false_ne_true] at h
    exact hr.run false pins s2 σ H2 D (.str x) _ I2 rv h
theorem pcs_any {p'} {body : List Stmt} {rest : List MatchCase} {tb : TS} (hb : PSs X body tb) : PCs X (⟨.MatchAs none none p', none, body⟩ :: rest) (fun _ => tb) := by
  refine ⟨fun first pins s σ H D v u I rv h => ?_⟩
  exact wpAny_matchCases_cons (wpAny_matchPattern_Capture (wpAny_assignInOrder_none (hb.run pins s σ H D I h)))
theorem ps_match {e : Expr} {cs : List MatchCase} {pos : Pos} {te : TE} {tc : V → TS} (he : PE X e te) (hc : PCs X cs tc) : PS X (.Match e cs pos) (fun D σ H => te σ H fun v H1 => tc v D σ H1) := by
  refine ⟨fun pins s σ H D I h => ?_⟩
  exact wpAny_Match (thn (he.run pins s σ H _ I h) fun u s1 ⟨v, H1, I1, r1, q1⟩ => hc.run true pins s1 σ H1 D v u I1 r1 q1)
theorem case_hit {z x : Str} {tb : TS} {tr : V → TS} {D : Ends} {σ : L2.St} {H : Hp} (h : decide (x = z) = true) (q : tb D σ H) : tCaseS z tb tr (.str x) D σ H := ⟨x, rfl, by rw [if_pos h]; exact q⟩
theorem case_miss {z x : Str} {tb : TS} {tr : V → TS} {D : Ends} {σ : L2.St} {H : Hp} (h : decide (x = z) = false) (q : tr (.str x) D σ H) : tCaseS z tb tr (.str x) D σ H := ⟨x, rfl, by rw [if_neg (by rw [h]; exact Bool.false_ne_true)]; exact q⟩
end

inductive Rl | down | up | zero | positive | near deriving DecidableEq
def grt (r : Rl) (s ds p sz : Int) : Bool := match r with
  | .down => decide (s * ds < 0)
  | .up => decide (0 < s * ds)
  | .positive => decide (s < 0)
  | .near => decide (sz < 2 * p) || (decide (2 * p = sz) && decide (s < 0))
  | .zero => false
def sgn (x : Int) : Int := (if 0 < x then 1 else 0) - (if x < 0 then 1 else 0)
def ab (x : Int) : Int := if x < 0 then -x else x
/-- the program's division -/
def dvd (r : Rl) (x b : Int) : Int × Int :=
  if 0 < ab x % ab b ∧ grt r (sgn x) (sgn b) (ab x % ab b) (ab b) = true
  then (sgn x * sgn b * (ab x / ab b + 1), sgn x * (ab x % ab b - ab b))
  else (sgn x * sgn b * (ab x / ab b), sgn x * (ab x % ab b))
/-- the law's remainder -/
def ldr (r : Rl) (x b : Int) : Int := match r with
  | .down => x % ab b - ab b * (if b < 0 ∧ 0 < x % ab b then 1 else 0)
  | .up => x % ab b - ab b * (if 0 < b ∧ 0 < x % ab b then 1 else 0)
  | .zero => x % ab b - ab b * (if x < 0 ∧ 0 < x % ab b then 1 else 0)
  | .near => x % ab b - ab b * (if ab b < 2 * (x % ab b) then 1 else 0)
  | .positive => x % ab b
def ldv (r : Rl) (x b : Int) : Int × Int := ((x - ldr r x b) / ab b * (1 - 2 * (if b < 0 then 1 else 0)), ldr r x b)
theorem ab_pos {b : Int} (h : b ≠ 0) : 0 < ab b := by unfold ab; split <;> omega
theorem emod_neg_of {x s w p : Int} (hs : 0 < s) (h : -x = s * w + p) (h0 : 0 ≤ p) (h1 : p < s) : x % s = if p = 0 then 0 else s - p := by
  split
  · have e : x = s * (-w) := by grind
    rw [e]; exact Int.mul_emod_right ..
  · have e : x = (s - p) + s * (-w - 1) := by grind
    rw [e, Int.add_mul_emod_self_left]
    exact Int.emod_eq_of_lt (by omega) (by omega)
theorem dvd_sum (r : Rl) (x b : Int) (hb : b ≠ 0) : x = (dvd r x b).1 * b + (dvd r x b).2 := by
  have hs := ab_pos hb
  have e := Int.mul_ediv_add_emod (ab x) (ab b)
  generalize hw : ab x / ab b = w at *
  generalize hp : ab x % ab b = p at *
  unfold dvd
  rw [hp, hw]
  have hx : x = sgn x * ab x := by unfold sgn ab; split <;> split <;> grind
  have hbb : b = sgn b * ab b := by unfold sgn ab; split <;> split <;> grind
  have h1 : sgn b * sgn b = 1 := by unfold sgn; split <;> split <;> grind
  split <;> grind
theorem dvd_abs (r : Rl) (x b : Int) (hb : b ≠ 0) : ab (dvd r x b).2 < ab b := by
  have hs := ab_pos hb
  have h0 := Int.emod_nonneg (ab x) (b := ab b) (by omega)
  have h1 := Int.emod_lt_of_pos (ab x) hs
  unfold dvd
  generalize ab x % ab b = p at *
  have h3 : sgn x = 1 ∨ sgn x = -1 ∨ sgn x = 0 := by unfold sgn; split <;> split <;> omega
  generalize ab b = s at *
  split <;> (rcases h3 with h | h | h <;> rw [h] <;> simp only [ab] <;> (try split) <;> grind)
theorem dvd_rem (r : Rl) (x b : Int) (hb : b ≠ 0) : (dvd r x b).2 = ldr r x b := by
  have hs := ab_pos hb
  have h0 := Int.emod_nonneg (ab x) (b := ab b) (by omega)
  have h1 := Int.emod_lt_of_pos (ab x) hs
  have e := Int.mul_ediv_add_emod (ab x) (ab b)
  unfold dvd
  rcases Int.lt_trichotomy x 0 with hx | hx | hx
  · have ex : ab x = -x := by unfold ab; rw [if_pos hx]
    have em := emod_neg_of hs (by rw [← ex]; exact e.symm) h0 h1
    have sx : sgn x = -1 := by unfold sgn; rw [if_neg (by omega), if_pos hx]; rfl
    unfold ldr
    rw [em, sx]
    generalize ab x % ab b = p at *
    rcases Int.lt_or_gt_of_ne hb with h | h
    · have sb : sgn b = -1 := by unfold sgn; rw [if_neg (by omega), if_pos h]; rfl
      rw [sb]
      cases r <;> simp only [grt] <;> grind
    · have sb : sgn b = 1 := by unfold sgn; rw [if_pos h, if_neg (by omega)]; rfl
      rw [sb]
      cases r <;> simp only [grt] <;> grind
  · subst hx
    have ex : ab 0 = 0 := rfl
    unfold ldr
    rw [ex]
    simp
    cases r <;> simp [grt, sgn] <;> grind
  · have ex : ab x = x := by unfold ab; rw [if_neg (by omega)]
    have sx : sgn x = 1 := by unfold sgn; rw [if_pos hx, if_neg (by omega)]; rfl
    unfold ldr
    rw [ex] at *
    rw [sx]
    generalize x % ab b = p at *
    rcases Int.lt_or_gt_of_ne hb with h | h
    · have sb : sgn b = -1 := by unfold sgn; rw [if_neg (by omega), if_pos h]; rfl
      rw [sb]
      cases r <;> simp only [grt] <;> grind
    · have sb : sgn b = 1 := by unfold sgn; rw [if_pos h, if_neg (by omega)]; rfl
      rw [sb]
      cases r <;> simp only [grt] <;> grind
theorem dvd_ldv (r : Rl) (x b : Int) (hb : b ≠ 0) : dvd r x b = ldv r x b := by
  have h1 := dvd_sum r x b hb
  have h2 := dvd_rem r x b hb
  have hs := ab_pos hb
  refine Prod.ext ?_ h2
  unfold ldv
  rw [← h2]
  simp only
  generalize (dvd r x b).1 = q at *
  generalize (dvd r x b).2 = d at *
  have e : x - d = ab b * (q * (1 - 2 * (if b < 0 then 1 else 0))) := by unfold ab; split <;> grind
  rw [e, Int.mul_ediv_cancel_left _ (by omega)]
  split <;> grind
/-- the program's carry -/
def car (r : Rl) (s b f : Int) : Int × Int := if f = ab b then (1, 0) else if 0 < f ∧ grt r s (sgn b) f (ab b) = true then (1, s * (f - ab b)) else (0, s * f)
theorem car_dvd (r : Rl) {s b f m : Int} (hs : s = 1 ∨ s = -1) (hb : b ≠ 0) (f0 : 0 ≤ f) (f1 : f ≤ ab b) (m0 : 0 ≤ m) :
    car r s b f = (s * (1 - 2 * (if b < 0 then 1 else 0)) * (dvd r (s * (ab b * m + f)) b).1 - m, (dvd r (s * (ab b * m + f)) b).2) := by
  have hz := ab_pos hb
  have hp : 0 ≤ ab b * m := Int.mul_nonneg (by omega) m0
  have hax : ab (s * (ab b * m + f)) = ab b * m + f := by rcases hs with h | h <;> rw [h] <;> unfold ab at * <;> grind
  have hsb : sgn b = 1 - 2 * (if b < 0 then 1 else 0) := by unfold sgn; grind
  have hbb : sgn b * sgn b = 1 := by unfold sgn; split <;> split <;> grind
  have hss : s * s = 1 := by rcases hs with h | h <;> rw [h] <;> rfl
  have hsx : ab b * m + f = 0 ∨ sgn (s * (ab b * m + f)) = s := by rcases hs with h | h <;> rw [h] <;> unfold sgn <;> grind
  rw [← hsb]
  unfold dvd car
  rw [hax]
  by_cases hf : f = ab b
  · have e1 : (ab b * m + f) / ab b = m + 1 := by
      have : ab b * m + f = ab b * (m + 1) := by grind
      rw [this, Int.mul_ediv_cancel_left _ (by omega)]
    have e2 : (ab b * m + f) % ab b = 0 := by
      have : ab b * m + f = ab b * (m + 1) := by grind
      rw [this, Int.mul_emod_right]
    rw [e1, e2, if_pos hf, if_neg (by omega)]
    rcases hsx with h | h
    · omega
    · rw [h]
      grind
  · have e1 : (ab b * m + f) / ab b = m := by
      rw [Int.add_comm, Int.add_mul_ediv_left _ _ (by omega), Int.ediv_eq_zero_of_lt f0 (by omega)]
      omega
    have e2 : (ab b * m + f) % ab b = f := by
      rw [Int.add_comm, Int.add_mul_emod_self_left]
      exact Int.emod_eq_of_lt f0 (by omega)
    rw [e1, e2, if_neg hf]
    rcases hsx with h | h
    · have h1 : f = 0 := by omega
      have h2 : m = 0 := by
        have : ab b * m = 0 := by omega
        rcases Int.mul_eq_zero.mp this with h | h <;> omega
      subst h1 h2
      grind
    · rw [h]
      split <;> grind

def Rl.name : Rl → Str
  | .down => "down"
  | .up => "up"
  | .zero => "zero"
  | .positive => "positive"
  | .near => "near"
abbrev ruleVs : List V := [.str "down", .str "up", .str "zero", .str "positive", .str "near"]
theorem Rl.mem (r : Rl) : V.str r.name ∈ ruleVs := by cases r <;> simp [Rl.name, ruleVs]
theorem Rl.of_mem {v : V} (h : v ∈ ruleVs) : ∃ r : Rl, v = .str r.name := by
  simp only [ruleVs, List.mem_cons, List.not_mem_nil, or_false] at h
  rcases h with h | h | h | h | h
  · exact ⟨.down, h⟩
  · exact ⟨.up, h⟩
  · exact ⟨.zero, h⟩
  · exact ⟨.positive, h⟩
  · exact ⟨.near, h⟩
theorem Rl.inV (r : Rl) : L2.inV (.str r.name) ruleVs = true := by cases r <;> decide +kernel
theorem sgn_eq (x : Int) : (if decide (0 < x) = true then (1 : Int) else 0) - (if decide (x < 0) = true then (1 : Int) else 0) = sgn x := by
  unfold sgn
  simp only [decide_eq_true_eq]
theorem call_absA {X : Cx} : CallR X (.builtin "abs") (fun xs H Q => ∃ i, xs = [.int i] ∧ Q (.int (ab i)) H) := call_abs

def top (i : Nat) : Stmt := PySem.Challenge.pw_twodivisions_k01_five_rules_of_division.main.body.getD i (.Pass ⟨0, 0, 0, 0⟩)
abbrev s_is_integer : Stmt := (top 6)
abbrev n_is_integer : List Str := ["value"]
theorem sc_is_integer : FnScope n_is_integer ["value"] (defScope s_is_integer) := ⟨rfl, rfl, rfl, by decide +kernel, rfl, by decide +kernel, by decide +kernel⟩
abbrev s_is_between : Stmt := (top 7)
abbrev n_is_between : List Str := ["value", "least", "greatest"]
theorem sc_is_between : FnScope n_is_between ["value", "least", "greatest"] (defScope s_is_between) := ⟨rfl, rfl, rfl, by decide +kernel, rfl, by decide +kernel, by decide +kernel⟩
abbrev s_is_base : Stmt := (top 8)
abbrev n_is_base : List Str := ["value"]
theorem sc_is_base : FnScope n_is_base ["value"] (defScope s_is_base) := ⟨rfl, rfl, rfl, by decide +kernel, rfl, by decide +kernel, by decide +kernel⟩
abbrev s_is_sign : Stmt := (top 9)
abbrev n_is_sign : List Str := ["value"]
theorem sc_is_sign : FnScope n_is_sign ["value"] (defScope s_is_sign) := ⟨rfl, rfl, rfl, by decide +kernel, rfl, by decide +kernel, by decide +kernel⟩
abbrev s_sign_of : Stmt := (top 10)
abbrev n_sign_of : List Str := ["number"]
theorem sc_sign_of : FnScope n_sign_of ["number"] (defScope s_sign_of) := ⟨rfl, rfl, rfl, by decide +kernel, rfl, by decide +kernel, by decide +kernel⟩
abbrev s_rule_names : Stmt := (top 13)
abbrev n_rule_names : List Str := []
theorem sc_rule_names : FnScope n_rule_names [] (defScope s_rule_names) := ⟨rfl, rfl, rfl, by decide +kernel, rfl, by decide +kernel, by decide +kernel⟩
abbrev s_is_rule : Stmt := (top 14)
abbrev n_is_rule : List Str := ["value"]
theorem sc_is_rule : FnScope n_is_rule ["value"] (defScope s_is_rule) := ⟨rfl, rfl, rfl, by decide +kernel, rfl, by decide +kernel, by decide +kernel⟩
abbrev s_require_rule : Stmt := (top 15)
abbrev n_require_rule : List Str := ["value"]
theorem sc_require_rule : FnScope n_require_rule ["value"] (defScope s_require_rule) := ⟨rfl, rfl, rfl, by decide +kernel, rfl, by decide +kernel, by decide +kernel⟩
abbrev s_is_greater : Stmt := (top 16)
abbrev n_is_greater : List Str := ["rule", "sign", "divisor_sign", "part", "size"]
theorem sc_is_greater : FnScope n_is_greater ["rule", "sign", "divisor_sign", "part", "size"] (defScope s_is_greater) := ⟨rfl, rfl, rfl, by decide +kernel, rfl, by decide +kernel, by decide +kernel⟩
abbrev s_divided : Stmt := (top 17)
abbrev n_divided : List Str := ["rule", "x", "divisor", "size", "sign", "whole", "part"]
theorem sc_divided : FnScope n_divided ["rule", "x", "divisor"] (defScope s_divided) := ⟨rfl, rfl, rfl, by decide +kernel, rfl, by decide +kernel, by decide +kernel⟩
abbrev s_divide : Stmt := (top 18)
abbrev n_divide : List Str := ["rule", "x", "base"]
theorem sc_divide : FnScope n_divide ["rule", "x", "base"] (defScope s_divide) := ⟨rfl, rfl, rfl, by decide +kernel, rfl, by decide +kernel, by decide +kernel⟩
abbrev s_carried : Stmt := (top 19)
abbrev n_carried : List Str := ["rule", "sign", "base", "figure", "size"]
theorem sc_carried : FnScope n_carried ["rule", "sign", "base", "figure"] (defScope s_carried) := ⟨rfl, rfl, rfl, by decide +kernel, rfl, by decide +kernel, by decide +kernel⟩
abbrev s_carry : Stmt := (top 20)
abbrev n_carry : List Str := ["rule", "sign", "base", "figure"]
theorem sc_carry : FnScope n_carry ["rule", "sign", "base", "figure"] (defScope s_carry) := ⟨rfl, rfl, rfl, by decide +kernel, rfl, by decide +kernel, by decide +kernel⟩
abbrev s_l_pool : Stmt := (top 22)
abbrev n_l_pool : List Str := ["_law_script", "_law_k", "_law_cell", "_law_seed"]
theorem sc_l_pool : FnScope n_l_pool ["_law_script", "_law_k"] (defScope s_l_pool) := ⟨rfl, rfl, rfl, by decide +kernel, rfl, by decide +kernel, by decide +kernel⟩
abbrev s_l_draw : Stmt := (top 23)
abbrev n_l_draw : List Str := ["_law_pool_here", "_law_many", "_law_digit"]
theorem sc_l_draw : FnScope n_l_draw ["_law_pool_here", "_law_many"] (defScope s_l_draw) := ⟨rfl, rfl, rfl, by decide +kernel, rfl, by decide +kernel, by decide +kernel⟩
abbrev s_l_choose : Stmt := (top 24)
abbrev n_l_choose : List Str := ["_law_pool_here", "_law_items"]
theorem sc_l_choose : FnScope n_l_choose ["_law_pool_here", "_law_items"] (defScope s_l_choose) := ⟨rfl, rfl, rfl, by decide +kernel, rfl, by decide +kernel, by decide +kernel⟩
abbrev s_l_divide : Stmt := (top 25)
abbrev n_l_divide : List Str := ["_law_rule", "_law_x", "_law_base", "_law_size", "_law_spun", "_law_part"]
theorem sc_l_divide : FnScope n_l_divide ["_law_rule", "_law_x", "_law_base"] (defScope s_l_divide) := ⟨rfl, rfl, rfl, by decide +kernel, rfl, by decide +kernel, by decide +kernel⟩
abbrev s_l_number : Stmt := (top 26)
abbrev n_l_number : List Str := ["_law_pool_here", "_law_some"]
theorem sc_l_number : FnScope n_l_number ["_law_pool_here"] (defScope s_l_number) := ⟨rfl, rfl, rfl, by decide +kernel, rfl, by decide +kernel, by decide +kernel⟩
abbrev s_l_carries_right : Stmt := (top 27)
abbrev n_l_carries_right : List Str := ["_law_rule", "_law_sign", "_law_base", "_law_high", "_law_size", "_law_figure", "_law_x", "_law_later", "_law_part", "_law_spun"]
theorem sc_l_carries_right : FnScope n_l_carries_right ["_law_rule", "_law_sign", "_law_base", "_law_high"] (defScope s_l_carries_right) := ⟨rfl, rfl, rfl, by decide +kernel, rfl, by decide +kernel, by decide +kernel⟩
abbrev s_law : Stmt := (top 28)
abbrev n_law : List Str := ["_law_script", "_law_rules", "_law_told", "_law_k", "_law_pool_here", "_law_turn", "_law_rule", "_law_x", "_law_base", "_law_later", "_law_part", "_law_high"]
theorem sc_law : FnScope n_law ["_law_script"] (defScope s_law) := ⟨rfl, rfl, rfl, by decide +kernel, rfl, by decide +kernel, by decide +kernel⟩
structure Is (K : PySem.W.Frag) (mg : Str → Option Value) (x : Str) (st : Stmt) (ps : List Str) (f : Addr) (fd : FuncData) : Prop where
  F : Fun K x x st f fd
  mgf : mg x = some (.ref f)
  b : Binds K fd ps []
structure Txt (K : PySem.W.Frag) (mg : Str → Option Value) where
  a_is_integer : Addr
  d_is_integer : FuncData
  is_integer : Is K mg "is_integer" s_is_integer ["value"] a_is_integer d_is_integer
  a_is_between : Addr
  d_is_between : FuncData
  is_between : Is K mg "is_between" s_is_between ["value", "least", "greatest"] a_is_between d_is_between
  a_is_base : Addr
  d_is_base : FuncData
  is_base : Is K mg "is_base" s_is_base ["value"] a_is_base d_is_base
  a_is_sign : Addr
  d_is_sign : FuncData
  is_sign : Is K mg "is_sign" s_is_sign ["value"] a_is_sign d_is_sign
  a_sign_of : Addr
  d_sign_of : FuncData
  sign_of : Is K mg "sign_of" s_sign_of ["number"] a_sign_of d_sign_of
  a_rule_names : Addr
  d_rule_names : FuncData
  rule_names : Is K mg "rule_names" s_rule_names [] a_rule_names d_rule_names
  a_is_rule : Addr
  d_is_rule : FuncData
  is_rule : Is K mg "is_rule" s_is_rule ["value"] a_is_rule d_is_rule
  a_require_rule : Addr
  d_require_rule : FuncData
  require_rule : Is K mg "require_rule" s_require_rule ["value"] a_require_rule d_require_rule
  a_is_greater : Addr
  d_is_greater : FuncData
  is_greater : Is K mg "is_greater" s_is_greater ["rule", "sign", "divisor_sign", "part", "size"] a_is_greater d_is_greater
  a_divided : Addr
  d_divided : FuncData
  divided : Is K mg "divided" s_divided ["rule", "x", "divisor"] a_divided d_divided
  a_divide : Addr
  d_divide : FuncData
  divide : Is K mg "divide" s_divide ["rule", "x", "base"] a_divide d_divide
  a_carried : Addr
  d_carried : FuncData
  carried : Is K mg "carried" s_carried ["rule", "sign", "base", "figure"] a_carried d_carried
  a_carry : Addr
  d_carry : FuncData
  carry : Is K mg "carry" s_carry ["rule", "sign", "base", "figure"] a_carry d_carry
  a_l_pool : Addr
  d_l_pool : FuncData
  l_pool : Is K mg "_law_pool" s_l_pool ["_law_script", "_law_k"] a_l_pool d_l_pool
  a_l_draw : Addr
  d_l_draw : FuncData
  l_draw : Is K mg "_law_draw" s_l_draw ["_law_pool_here", "_law_many"] a_l_draw d_l_draw
  a_l_choose : Addr
  d_l_choose : FuncData
  l_choose : Is K mg "_law_choose" s_l_choose ["_law_pool_here", "_law_items"] a_l_choose d_l_choose
  a_l_divide : Addr
  d_l_divide : FuncData
  l_divide : Is K mg "_law_divide" s_l_divide ["_law_rule", "_law_x", "_law_base"] a_l_divide d_l_divide
  a_l_number : Addr
  d_l_number : FuncData
  l_number : Is K mg "_law_number" s_l_number ["_law_pool_here"] a_l_number d_l_number
  a_l_carries_right : Addr
  d_l_carries_right : FuncData
  l_carries_right : Is K mg "_law_carries_right" s_l_carries_right ["_law_rule", "_law_sign", "_law_base", "_law_high"] a_l_carries_right d_l_carries_right
  g_len : mg "len" = none
  g_int : mg "int" = none
  g_range : mg "range" = none
  g_min : mg "min" = none
  g_max : mg "max" = none
  g_isinstance : mg "isinstance" = none
  g_bool : mg "bool" = none
  g_str : mg "str" = none
  g_abs : mg "abs" = none
  g_list : mg "list" = none
  g_divmod : mg "divmod" = none
  a_RULES : Addr
  c_RULES : mg "RULES" = some (.ref a_RULES)
  t_RULES : ∀ H : Hp, SqT K H a_RULES ruleVs
section
variable {P : Program} {w : World} {K : PySem.W.Frag} {mg : Str → Option Value} {base : Heap}
theorem ok_l_pool (T : Txt K mg) : FnOk P w K mg base CX0 1 T.a_l_pool T.d_l_pool ["_law_script", "_law_k"] (spPool K) := by
  refine T.l_pool.F.ok sc_l_pool (fun vs H Q E h => ?_) (fun cdv A outer s H vs Q E hr h => ?_)
  · obtain ⟨a, ns, k, rfl, _⟩ := h
    rfl
  · obtain ⟨a, ns, k, rfl, hS, hk, q⟩ := h
    refine ⟨_, (pss_cons (ps_set (i := 2) sc_l_pool.nd rfl (Or.inl rfl) pe_int)
      (pss_cons (ps_if (pt_cmpR op_lt (pv 1) (pe_callB call_len_seq (by rfl) T.g_len (by decide +kernel) (pa_cons (pv 0) pa_nil)) (nomark _)) (pss_one (ps_set (i := 2) sc_l_pool.nd rfl (Or.inl rfl) (pe_ix ix_list (pv 0) (pv 1) (fun _ _ => rfl)))) pss_nil)
      (pss_cons (ps_set (i := 3) sc_l_pool.nd rfl (Or.inl rfl) (pe_op op_mod (pe_op op_pow (pe_op op_add (pe_op op_add (pe_op op_mod (pe_callTy call_int1 (by rfl) T.g_int (by decide +kernel) (pa_cons (pv 2) pa_nil)) pe_int) (pe_op op_mul (pe_op op_mul pe_int (pv 1)) (pv 1))) pe_int) pe_int) pe_int))
      (pss_cons (ps_if (pt_cmpR op_lt (pv 2) (pe_op op_pow pe_int pe_int) (nomark _)) (pss_one (ps_set (i := 2) sc_l_pool.nd rfl (Or.inl rfl) pe_int)) pss_nil)
      (pss_one (ps_ret (pe_lst (pa_cons (pv 2) (pa_cons (pv 3) pa_nil))))))))), ?_⟩
    refine ⟨_, rfl, _, rfl, a, _, rfl, .inl hS, _, _, rfl, rfl, _, rfl, ?_⟩
    rw [List.length_map]
    refine ite2 (fun hc => ?_) (fun hc => ?_)
    · have hlt : k < ns.length := by
        have := of_decide_eq_true hc
        omega
      refine ⟨_, rfl, _, rfl, a, _, _, _, rfl, rfl, hS, atI_map hlt, ?_⟩
      generalize ns.getD k 0 = c
      refine ⟨_, rfl, .inl ⟨_, rfl, _, _, rfl, rfl, (by show (0 : Int) < 2147483629; decide), ?_⟩⟩
      refine ⟨_, rfl, _, _, rfl, rfl, .inl ⟨by decide, by decide⟩, _, rfl, _, _, rfl, rfl, .inr ⟨by omega, by omega⟩, _, _, rfl, rfl, _, _, rfl, rfl, ?_⟩
      have hc0 : 0 ≤ c % 2147483629 := Int.emod_nonneg _ (by decide)
      have hc1 : c % 2147483629 < 2147483629 := Int.emod_lt_of_pos _ (by decide)
      have hk2 : 7919 * (k : Int) * (k : Int) ≤ 7919 * 64 * 64 := Int.mul_le_mul (by omega) (by omega) (by omega) (by omega)
      have hk3 : 0 ≤ 7919 * (k : Int) * (k : Int) := Int.mul_nonneg (by omega) (by omega)
      refine ⟨_, _, rfl, rfl, ⟨by decide, by decide, by omega⟩, _, _, rfl, rfl, (by show (0 : Int) < 2147483647; decide), ?_⟩
      refine ⟨_, rfl, _, _, rfl, rfl, ⟨by decide, by decide, by decide⟩, _, _, rfl, rfl, _, rfl, ?_⟩
      refine ite2 (fun _ => ?_) (fun _ => ?_)
      · refine ⟨_, rfl, _, rfl, (by show 2 ≤ sizeLine; decide), fun p hp => ?_⟩
        exact q p _ hp (fun b o e => by rw [upd_ne (ne_of_none e hp)]; exact e) Pool.putM
      · refine ⟨_, rfl, _, rfl, (by show 2 ≤ sizeLine; decide), fun p hp => ?_⟩
        exact q p _ hp (fun b o e => by rw [upd_ne (ne_of_none e hp)]; exact e) Pool.putM
    · refine ⟨_, rfl, .inl ⟨_, rfl, _, _, rfl, rfl, (by show (0 : Int) < 2147483629; decide), ?_⟩⟩
      refine ⟨_, rfl, _, _, rfl, rfl, .inl ⟨by decide, by decide⟩, _, rfl, _, _, rfl, rfl, .inr ⟨by omega, by omega⟩, _, _, rfl, rfl, _, _, rfl, rfl, ?_⟩
      have hk2 : 7919 * (k : Int) * (k : Int) ≤ 7919 * 64 * 64 := Int.mul_le_mul (by omega) (by omega) (by omega) (by omega)
      have hk3 : 0 ≤ 7919 * (k : Int) * (k : Int) := Int.mul_nonneg (by omega) (by omega)
      refine ⟨_, _, rfl, rfl, ⟨by decide, by decide, by omega⟩, _, _, rfl, rfl, (by show (0 : Int) < 2147483647; decide), ?_⟩
      refine ⟨_, rfl, _, _, rfl, rfl, ⟨by decide, by decide, by decide⟩, _, _, rfl, rfl, _, rfl, ?_⟩
      refine ite2 (fun _ => ?_) (fun _ => ?_)
      · refine ⟨_, rfl, _, rfl, (by show 2 ≤ sizeLine; decide), fun p hp => ?_⟩
        exact q p _ hp (fun b o e => by rw [upd_ne (ne_of_none e hp)]; exact e) Pool.putM
      · refine ⟨_, rfl, _, rfl, (by show 2 ≤ sizeLine; decide), fun p hp => ?_⟩
        exact q p _ hp (fun b o e => by rw [upd_ne (ne_of_none e hp)]; exact e) Pool.putM
theorem ok_l_draw (T : Txt K mg) : FnOk P w K mg base CX0 1 T.a_l_draw T.d_l_draw ["_law_pool_here", "_law_many"] spDraw := by
  refine T.l_draw.F.ok sc_l_draw (fun vs H Q E h => ?_) (fun cdv A outer s H vs Q E hr h => ?_)
  · obtain ⟨p, m, rfl, _⟩ := h
    rfl
  · obtain ⟨p, m, rfl, ⟨c, s0, hp, h0, h1⟩, m0, m1, q⟩ := h
    refine ⟨_, (pss_cons (ps_if (pt_cmpR op_gt (pe_ix ix_list (pv 0) pe_int (fun _ _ => rfl)) pe_int (nomark _)) (pss_cons (ps_set (i := 2) sc_l_draw.nd rfl (Or.inl rfl) (pe_op op_mod (pe_callTy call_int1 (by rfl) T.g_int (by decide +kernel) (pa_cons (pe_ix ix_list (pv 0) pe_int (fun _ _ => rfl)) pa_nil)) (pv 1)))
      (pss_cons (ps_asg (pe_op op_fdivW (pe_ix ix_list (pv 0) pe_int (fun _ _ => rfl)) (pv 1)) (pg_sub (pv 0) pe_int set_list))
      (pss_one (ps_ret (pv 2))))) pss_nil)
      (pss_cons (ps_asg (pe_op op_mod (pe_callTy call_int1 (by rfl) T.g_int (by decide +kernel) (pa_cons (pe_op op_add (pe_op op_mul (pe_ix ix_list (pv 0) pe_int (fun _ _ => rfl)) pe_int) pe_int) pa_nil)) pe_int) (pg_sub (pv 0) pe_int set_list))
      (pss_one (ps_ret (pe_op op_mod (pe_op op_fdiv (pe_op op_mod (pe_callTy call_int1 (by rfl) T.g_int (by decide +kernel) (pa_cons (pe_op op_mul (pe_ix ix_list (pv 0) pe_int (fun _ _ => rfl)) (pe_ix ix_list (pv 0) pe_int (fun _ _ => rfl))) pa_nil)) pe_int) pe_int) (pv 1)))))), ?_⟩
    have hm : CDivW c m := by
      refine wide_div m0 (b := 100) ?_ (by decide) (by decide)
      omega
    refine ⟨_, rfl, p, _, _, _, rfl, rfl, SqL.of hp, rfl, _, _, rfl, rfl, _, rfl, ?_⟩
    refine ite2 (fun _ => ?_) (fun _ => ?_)
    · refine ⟨_, rfl, p, _, _, _, rfl, rfl, SqL.of hp, rfl, .inl ⟨_, rfl, _, rfl, _, _, rfl, rfl, m0, ?_⟩⟩
      refine ⟨_, rfl, p, _, _, _, rfl, rfl, SqL.of hp, rfl, _, rfl, _, _, rfl, rfl, hm, ?_⟩
      refine ⟨_, rfl, p, _, _, 0, rfl, rfl, hp, rfl, ?_⟩
      refine ⟨_, rfl, ?_⟩
      exact q _ _ (Int.emod_nonneg _ (by omega)) (Int.emod_lt_of_pos _ m0) ⟨Kp.put Kp.refl, Pool.put h0 h1⟩
    · refine ⟨_, rfl, p, _, _, _, rfl, rfl, SqL.of hp, rfl, _, _, rfl, rfl, .inr ⟨by decide, by decide⟩, _, _, rfl, rfl, .inl ⟨_, rfl, _, _, rfl, rfl, (by show (0 : Int) < 2147483647; decide), ?_⟩⟩
      refine ⟨_, rfl, p, _, _, 1, rfl, rfl, hp, rfl, ?_⟩
      refine ⟨_, rfl, p, _, _, _, rfl, rfl, SqL.of upd_same, rfl, _, rfl, p, _, _, _, rfl, rfl, SqL.of upd_same, rfl, _, _, rfl, rfl, .inl ⟨by omega, by omega⟩, .inl ⟨_, rfl, _, _, rfl, rfl, (by show (0 : Int) < 2147483629; decide), ?_⟩⟩
      refine ⟨_, _, rfl, rfl, ⟨by decide, by decide⟩, _, rfl, _, _, rfl, rfl, m0, ?_⟩
      exact q _ _ (Int.emod_nonneg _ (by omega)) (Int.emod_lt_of_pos _ m0) ⟨Kp.put Kp.refl, Pool.putM⟩

theorem ok_l_choose (T : Txt K mg) : FnOk P w K mg base CX0 2 T.a_l_choose T.d_l_choose ["_law_pool_here", "_law_items"] (spChoose K) := by
  refine T.l_choose.F.ok sc_l_choose (fun vs H Q E h => ?_) (fun cdv A outer s H vs Q E hr h => ?_)
  · obtain ⟨p, l, ys, rfl, _⟩ := h
    rfl
  · obtain ⟨p, l, ys, rfl, hp, hl, hne, hlen, nlp, q⟩ := h
    have h0 : 0 < ys.length := List.length_pos_iff.mpr hne
    refine ⟨_, (pss_one (ps_ret (pe_ix ix_list (pv 1) (pe_call (ok_l_draw T) (hr.mono (by decide)) (by rfl) T.l_draw.mgf T.l_draw.F.kp T.l_draw.b .nil pass0 (pa_cons (pv 0) (pa_cons (pe_callB call_len_seq (by rfl) T.g_len (by decide +kernel) (pa_cons (pv 1) pa_nil)) pa_nil))) (fun _ _ => rfl)))), ?_⟩
    refine ⟨_, rfl, _, rfl, _, rfl, l, ys, rfl, .inl hl, p, _, rfl, hp, by omega, by omega, fun d H' d0 d1 D => ?_⟩
    obtain ⟨v, hv, e⟩ := atI_some d0 d1
    exact ⟨l, ys, d, v, rfl, rfl, D.1.seq nlp hl, e, q v H' hv D⟩

def spIsInt : Sp := fun vs H Q _ => ∃ i : Int, vs = [.int i] ∧ Q (.bl true) H
theorem ok_is_integer (T : Txt K mg) : FnOk P w K mg base CX0 1 T.a_is_integer T.d_is_integer ["value"] spIsInt := by
  refine T.is_integer.F.ok sc_is_integer (fun vs H Q E h => ?_) (fun cdv A outer s H vs Q E hr h => ?_)
  · obtain ⟨i, rfl, _⟩ := h
    rfl
  · obtain ⟨i, rfl, q⟩ := h
    refine ⟨_, (pss_one (ps_ret (pe_and (pe_callB call_isi (by rfl) T.g_isinstance (by decide +kernel) (pa_cons (pv 0) (pa_cons (pe_bltn (v := .ty "int") (by rfl) T.g_int (by decide +kernel) rfl) pa_nil))) (pe_one (pe_not (pe_callB call_isi (by rfl) T.g_isinstance (by decide +kernel) (pa_cons (pv 0) (pa_cons (pe_bltn (v := .ty "bool") (by rfl) T.g_bool (by decide +kernel) rfl) pa_nil)))))))), ?_⟩
    refine ⟨_, rfl, _, _, _, _, true, rfl, .ty _, .base (.int _), kit_ty (by decide +kernel), _, rfl, ?_⟩
    refine ⟨_, rfl, _, _, _, _, false, rfl, .ty _, .base (.int _), kit_ty (by decide +kernel), _, rfl, ?_⟩
    exact q
def spBetween : Sp := fun vs H Q _ => ∃ v a b : Int, vs = [.int v, .int a, .int b] ∧ Q (.bl (decide (a ≤ v) && decide (v ≤ b))) H
theorem ok_is_between (T : Txt K mg) : FnOk P w K mg base CX0 2 T.a_is_between T.d_is_between ["value", "least", "greatest"] spBetween := by
  refine T.is_between.F.ok sc_is_between (fun vs H Q E h => ?_) (fun cdv A outer s H vs Q E hr h => ?_)
  · obtain ⟨v, a, b, rfl, _⟩ := h
    rfl
  · obtain ⟨v, a, b, rfl, q⟩ := h
    refine ⟨_, (pss_one (ps_ret (pe_and (pe_call (ok_is_integer T) (hr.mono (by decide)) (by rfl) T.is_integer.mgf T.is_integer.F.kp T.is_integer.b .nil pass0 (pa_cons (pv 0) pa_nil)) (pe_one (pe_chain op_le op_le (pv 1) (pv 0) (pv 2)))))), ?_⟩
    refine ⟨_, rfl, v, rfl, _, rfl, ?_⟩
    refine ⟨_, rfl, _, rfl, _, _, rfl, rfl, _, rfl, ?_⟩
    cases h : decide (a ≤ v) with
    | true =>
      rw [h] at q
      exact ⟨_, rfl, _, _, rfl, rfl, q⟩
    | false =>
      rw [h] at q
      exact q
def spBase : Sp := fun vs H Q _ => ∃ b : Int, vs = [.int b] ∧ 2 ≤ ab b ∧ ab b ≤ 10 ∧ Q (.bl true) H
theorem ok_is_base (T : Txt K mg) : FnOk P w K mg base CX0 2 T.a_is_base T.d_is_base ["value"] spBase := by
  refine T.is_base.F.ok sc_is_base (fun vs H Q E h => ?_) (fun cdv A outer s H vs Q E hr h => ?_)
  · obtain ⟨b, rfl, _⟩ := h
    rfl
  · obtain ⟨b, rfl, h1, h2, q⟩ := h
    refine ⟨_, (pss_one (ps_ret (pe_and (pe_call (ok_is_integer T) (hr.mono (by decide)) (by rfl) T.is_integer.mgf T.is_integer.F.kp T.is_integer.b .nil pass0 (pa_cons (pv 0) pa_nil)) (pe_one (pe_chain op_le op_le pe_int (pe_callB call_absA (by rfl) T.g_abs (by decide +kernel) (pa_cons (pv 0) pa_nil)) pe_int))))), ?_⟩
    refine ⟨_, rfl, b, rfl, _, rfl, ?_⟩
    refine ⟨_, rfl, _, rfl, _, _, rfl, rfl, _, rfl, ?_⟩
    have e1 : decide ((2 : Int) ≤ ab b) = true := decide_eq_true h1
    have e2 : decide (ab b ≤ (10 : Int)) = true := decide_eq_true h2
    rw [e1]
    refine ⟨_, _, rfl, rfl, ?_⟩
    show Q (.bl (decide _)) H
    rw [e2]
    exact q
def spIsSign : Sp := fun vs H Q _ => ∃ s : Int, vs = [.int s] ∧ (s = 1 ∨ s = -1) ∧ ∀ H', Same H H' → Q (.bl true) H'
theorem ok_is_sign (T : Txt K mg) : FnOk P w K mg base CX0 2 T.a_is_sign T.d_is_sign ["value"] spIsSign := by
  refine T.is_sign.F.ok sc_is_sign (fun vs H Q E h => ?_) (fun cdv A outer s H vs Q E hr h => ?_)
  · obtain ⟨s, rfl, _⟩ := h
    rfl
  · obtain ⟨s, rfl, hs, q⟩ := h
    refine ⟨_, (pss_one (ps_ret (pe_and (pe_call (ok_is_integer T) (hr.mono (by decide)) (by rfl) T.is_integer.mgf T.is_integer.F.kp T.is_integer.b .nil pass0 (pa_cons (pv 0) pa_nil)) (pe_one (pe_cmpR op_in_seq (pv 0) (pe_tup (pa_cons (pe_un un_neg pe_int) (pa_cons pe_int pa_nil))) (by rfl)))))), ?_⟩
    refine ⟨_, rfl, s, rfl, _, rfl, ?_⟩
    refine ⟨_, rfl, _, rfl, (by show 2 ≤ sizeLine; decide), fun p hp => ?_⟩
    refine ⟨p, _, rfl, .inr (SqT.of upd_same), rfl, rfl, ?_⟩
    have e : inV (.int s) [.int (-1), .int 1] = true := by rcases hs with h | h <;> rw [h] <;> rfl
    show Q (.bl (inV (.int s) [.int (-1), .int 1])) _
    rw [e]
    exact q _ fun b o hb => by rw [upd_ne (ne_of_none hb hp)]; exact hb
def spSign : Sp := fun vs H Q _ => ∃ x : Int, vs = [.int x] ∧ Q (.int (sgn x)) H
theorem ok_sign_of (T : Txt K mg) : FnOk P w K mg base CX0 1 T.a_sign_of T.d_sign_of ["number"] spSign := by
  refine T.sign_of.F.ok sc_sign_of (fun vs H Q E h => ?_) (fun cdv A outer s H vs Q E hr h => ?_)
  · obtain ⟨x, rfl, _⟩ := h
    rfl
  · obtain ⟨x, rfl, q⟩ := h
    refine ⟨_, (pss_one (ps_ret (pe_op op_sub (pe_callTy call_int1 (by rfl) T.g_int (by decide +kernel) (pa_cons (pe_cmpR op_gt (pv 0) pe_int (nomark _)) pa_nil)) (pe_callTy call_int1 (by rfl) T.g_int (by decide +kernel) (pa_cons (pe_cmpR op_lt (pv 0) pe_int (nomark _)) pa_nil))))), ?_⟩
    refine ⟨_, rfl, _, _, rfl, rfl, .inr ⟨_, rfl, _, rfl, _, _, rfl, rfl, .inr ⟨_, rfl, _, _, rfl, rfl, ?_⟩⟩⟩
    show Q (.int _) H
    rw [← sgn_eq] at q
    exact q
def spRequire : Sp := fun vs H Q _ => ∃ r : Rl, vs = [.str r.name] ∧ Q .non H
def spIsRule : Sp := fun vs H Q _ => ∃ r : Rl, vs = [.str r.name] ∧ Q (.bl true) H
theorem ok_is_rule (T : Txt K mg) : FnOk P w K mg base CX0 1 T.a_is_rule T.d_is_rule ["value"] spIsRule := by
  refine T.is_rule.F.ok sc_is_rule (fun vs H Q E h => ?_) (fun cdv A outer s H vs Q E hr h => ?_)
  · obtain ⟨i, rfl, _⟩ := h
    rfl
  · obtain ⟨r, rfl, q⟩ := h
    refine ⟨_, (pss_one (ps_ret (pe_and (pe_callB call_isi (by rfl) T.g_isinstance (by decide +kernel) (pa_cons (pv 0) (pa_cons (pe_bltn (v := .ty "str") (by rfl) T.g_str (by decide +kernel) rfl) pa_nil))) (pe_one (pe_cmpR op_in_seq (pv 0) (pe_glob (v := .ref T.a_RULES) (by rfl) T.c_RULES rfl) (by rfl)))))), ?_⟩
    refine ⟨_, rfl, _, _, _, _, true, rfl, .ty _, .base (.str _), kit_ty (by decide +kernel), _, rfl, ?_⟩
    refine ⟨_, rfl, T.a_RULES, ruleVs, rfl, .inr (T.t_RULES _), rfl, rfl, ?_⟩
    show Q (.bl (inV (.str r.name) ruleVs)) H
    rw [r.inV]
    exact q
theorem ok_require_rule (T : Txt K mg) : FnOk P w K mg base CX0 2 T.a_require_rule T.d_require_rule ["value"] spRequire := by
  refine T.require_rule.F.ok sc_require_rule (fun vs H Q E h => ?_) (fun cdv A outer s H vs Q E hr h => ?_)
  · obtain ⟨i, rfl, _⟩ := h
    rfl
  · obtain ⟨r, rfl, q⟩ := h
    refine ⟨_, (pss_one (ps_if (pt_not (pt_val (pe_call (ok_is_rule T) (hr.mono (by decide)) (by rfl) T.is_rule.mgf T.is_rule.F.kp T.is_rule.b .nil pass0 (pa_cons (pv 0) pa_nil)))) (pss_one ps_never) pss_nil)), ?_⟩
    exact ⟨_, rfl, r, rfl, _, rfl, iteF q⟩
def spGreater : Sp := fun vs H Q _ => ∃ (r : Rl) (s ds p sz : Int), vs = [.str r.name, .int s, .int ds, .int p, .int sz] ∧ (-1 ≤ s ∧ s ≤ 1) ∧ Q (.bl (grt r s ds p sz)) H
theorem ok_is_greater (T : Txt K mg) : FnOk P w K mg base CX0 1 T.a_is_greater T.d_is_greater ["rule", "sign", "divisor_sign", "part", "size"] spGreater := by
  refine T.is_greater.F.ok sc_is_greater (fun vs H Q E h => ?_) (fun cdv A outer s H vs Q E hr h => ?_)
  · obtain ⟨r, s, ds, p, sz, rfl, _⟩ := h
    rfl
  · obtain ⟨r, s, ds, p, sz, rfl, hs, q⟩ := h
    refine ⟨_, (pss_one (ps_match (pv 0) (pcs_str (pss_one (ps_ret (pe_cmpR op_lt (pe_op op_mul (pv 1) (pv 2)) pe_int (nomark _))))
      (pcs_str (pss_one (ps_ret (pe_cmpR op_gt (pe_op op_mul (pv 1) (pv 2)) pe_int (nomark _))))
      (pcs_str (pss_one (ps_ret (pe_cmpR op_lt (pv 1) pe_int (nomark _))))
      (pcs_str (pss_one (ps_ret (pe_or (pe_cmpR op_gt (pe_op op_mul pe_int (pv 3)) (pv 4) (nomark _)) (pe_one (pe_and (pe_cmpR op_eq (pe_op op_mul pe_int (pv 3)) (pv 4) (nomark _)) (pe_one (pe_cmpR op_lt (pv 1) pe_int (nomark _))))))))
      (pcs_any (pss_one (ps_ret pe_bl))))))))), ?_⟩
    refine ⟨_, rfl, ?_⟩
    cases r with
    | down => exact case_hit (by decide +kernel) ⟨_, rfl, _, rfl, _, _, rfl, rfl, .inl ⟨by omega, by omega⟩, _, _, rfl, rfl, q⟩
    | up => exact case_miss (by decide +kernel) (case_hit (by decide +kernel) ⟨_, rfl, _, rfl, _, _, rfl, rfl, .inl ⟨by omega, by omega⟩, _, _, rfl, rfl, q⟩)
    | zero => exact case_miss (by decide +kernel) (case_miss (by decide +kernel) (case_miss (by decide +kernel) (case_miss (by decide +kernel) q)))
    | positive => exact case_miss (by decide +kernel) (case_miss (by decide +kernel) (case_hit (by decide +kernel) ⟨_, rfl, _, _, rfl, rfl, q⟩))
    | near =>
      refine case_miss (by decide +kernel) (case_miss (by decide +kernel) (case_miss (by decide +kernel) (case_hit (by decide +kernel) ?_)))
      refine ⟨_, rfl, _, _, rfl, rfl, .inl ⟨by decide, by decide⟩, _, rfl, _, _, rfl, rfl, _, rfl, ?_⟩
      have q2 : Q (.bl (decide (sz < 2 * p) || (decide (2 * p = sz) && decide (s < 0)))) H := q
      cases h : decide (sz < 2 * p) with
      | true =>
        rw [h] at q2
        exact q2
      | false =>
        rw [h, Bool.false_or] at q2
        refine ⟨_, rfl, _, _, rfl, rfl, .inl ⟨by decide, by decide⟩, _, rfl, rfl, _, rfl, ?_⟩
        have e : decide (V.int (2 * p) = V.int sz) = decide (2 * p = sz) := decide_eq_decide.mpr ⟨fun e => V.int.inj e, fun e => by rw [e]⟩
        rw [e]
        cases h2 : decide (2 * p = sz) with
        | true =>
          rw [h2] at q2
          exact ⟨_, rfl, _, _, rfl, rfl, q2⟩
        | false =>
          rw [h2] at q2
          exact q2
theorem sgn_range (x : Int) : -1 ≤ sgn x ∧ sgn x ≤ 1 := by unfold sgn; split <;> split <;> omega
theorem sgn_mul (x y : Int) : -1 ≤ sgn x * sgn y ∧ sgn x * sgn y ≤ 1 := by unfold sgn; split <;> split <;> split <;> split <;> decide
def spDivided : Sp := fun vs H Q _ => ∃ (r : Rl) (x b : Int), vs = [.str r.name, .int x, .int b] ∧ b ≠ 0 ∧ ab b < 2 ^ 100 ∧ ∀ (t : Addr) (H' : Hp), H t = none → Same H H' → H' t = some (.tup [.int (dvd r x b).1, .int (dvd r x b).2]) → Q (.ref t) H'
theorem ok_divided (T : Txt K mg) : FnOk P w K mg base CX0 2 T.a_divided T.d_divided ["rule", "x", "divisor"] spDivided := by
  refine T.divided.F.ok sc_divided (fun vs H Q E h => ?_) (fun cdv A outer s H vs Q E hr h => ?_)
  · obtain ⟨r, x, b, rfl, _⟩ := h
    rfl
  · obtain ⟨r, x, b, rfl, hb, hb2, q⟩ := h
    have hz := ab_pos hb
    have hd : CDivP (ab x) (ab b) := ⟨hz, PyProof.noPylong_of_log2 (wide_div (i := ab x) hz (b := 100) (by omega) (by decide) (by decide)).2⟩
    refine ⟨_, (pss_cons (ps_par (i := 3) (j := 4) (by rfl) sc_divided.nd rfl rfl (by decide) rfl rfl (pa_cons (pe_callB call_absA (by rfl) T.g_abs (by decide +kernel) (pa_cons (pv 2) pa_nil)) (pa_cons (pe_call (ok_sign_of T) (hr.mono (by decide)) (by rfl) T.sign_of.mgf T.sign_of.F.kp T.sign_of.b .nil pass0 (pa_cons (pv 1) pa_nil)) pa_nil)) (by rfl))
      (pss_cons (ps_asg (pe_callB call_divmodW (by rfl) T.g_divmod (by decide +kernel) (pa_cons (pe_callB call_absA (by rfl) T.g_abs (by decide +kernel) (pa_cons (pv 1) pa_nil)) (pa_cons (pv 3) pa_nil))) (pg_tup rfl (pgs_cons (pg_name (i := 5) sc_divided.nd rfl (Or.inl rfl)) (pgs_cons (pg_name (i := 6) sc_divided.nd rfl (Or.inl rfl)) pgs_nil))))
      (pss_cons (ps_if (PW.pt (pw_and (pt_cmpR op_gt (pv 6) pe_int (nomark _)) (pw_and1 (pt_val (pe_call (ok_is_greater T) (hr.mono (by decide)) (by rfl) T.is_greater.mgf T.is_greater.F.kp T.is_greater.b .nil pass0 (pa_cons (pv 0) (pa_cons (pv 4) (pa_cons (pe_call (ok_sign_of T) (hr.mono (by decide)) (by rfl) T.sign_of.mgf T.sign_of.F.kp T.sign_of.b .nil pass0 (pa_cons (pv 2) pa_nil)) (pa_cons (pv 6) (pa_cons (pv 3) pa_nil)))))))))) (pss_one (ps_par (i := 5) (j := 6) (by rfl) sc_divided.nd rfl rfl (by decide) rfl rfl (pa_cons (pe_op op_add (pv 5) pe_int) (pa_cons (pe_op op_sub (pv 6) (pv 3)) pa_nil)) (by rfl))) pss_nil)
      (pss_one (ps_ret (pe_tup (pa_cons (pe_op op_mul (pe_op op_mul (pv 4) (pe_call (ok_sign_of T) (hr.mono (by decide)) (by rfl) T.sign_of.mgf T.sign_of.F.kp T.sign_of.b .nil pass0 (pa_cons (pv 2) pa_nil))) (pv 5)) (pa_cons (pe_op op_mul (pv 4) (pv 6)) pa_nil)))))))), ?_⟩
    refine ⟨_, rfl, _, rfl, _, rfl, x, rfl, _, _, rfl, ?_⟩
    refine ⟨_, rfl, _, rfl, _, rfl, _, _, rfl, hd, fun t ht => ?_⟩
    refine ⟨t, _, rfl, SqT.of upd_same, rfl, _, _, rfl, _, _, rfl, rfl, ?_⟩
    have s1 : Same H (upd H t (.tup [.int (ab x / ab b), .int (ab x % ab b)])) := fun c o hc => by rw [upd_ne (ne_of_none hc ht)]; exact hc
    have fin : ∀ (u : Int × Int) (H1 : Hp) (t1 : Addr), Same H H1 → H1 t1 = none → dvd r x b = u → Q (.ref t1) (upd H1 t1 (.tup [.int u.1, .int u.2])) := fun u H1 t1 sm h1 e => by
      refine q t1 _ (sm.free h1) (fun c o hc => ?_) ?_
      · rw [upd_ne (ne_of_none (sm _ _ hc) h1)]
        exact sm _ _ hc
      · rw [upd_same, e]
    have hx1 := sgn_range x
    have hb1 := sgn_range b
    have hxb := sgn_mul x b
    refine ⟨_, rfl, _, _, rfl, rfl, _, rfl, ?_⟩
    refine ite2 (fun h1 => ?_) (fun h1 => ?_)
    · have h1' : 0 < ab x % ab b := of_decide_eq_true h1
      refine ⟨_, rfl, _, rfl, _, rfl, b, rfl, _, rfl, _, rfl, r, sgn x, sgn b, _, _, rfl, hx1, _, rfl, ?_⟩
      refine ite2 (fun h2 => ?_) (fun h2 => ?_)
      · refine ⟨_, rfl, _, _, rfl, rfl, _, rfl, _, rfl, _, _, rfl, rfl, _, _, rfl, ?_⟩
        refine ⟨_, rfl, _, rfl, b, rfl, _, _, rfl, rfl, .inl ⟨by omega, by omega⟩, _, rfl, _, _, rfl, rfl, .inl ⟨by omega, by omega⟩, _, rfl, _, rfl, _, _, rfl, rfl, .inl ⟨by omega, by omega⟩, (by show 2 ≤ sizeLine; decide), fun t1 h1 => ?_⟩
        exact fin (_, _) _ t1 s1 h1 (by unfold dvd; rw [if_pos ⟨h1', h2⟩])
      · refine ⟨_, rfl, _, rfl, b, rfl, _, _, rfl, rfl, .inl ⟨by omega, by omega⟩, _, rfl, _, _, rfl, rfl, .inl ⟨by omega, by omega⟩, _, rfl, _, rfl, _, _, rfl, rfl, .inl ⟨by omega, by omega⟩, (by show 2 ≤ sizeLine; decide), fun t1 h1 => ?_⟩
        exact fin (_, _) _ t1 s1 h1 (by unfold dvd; rw [if_neg (fun z => h2 z.2)])
    · have h1' : ¬ 0 < ab x % ab b := fun z => h1 (decide_eq_true z)
      show if false = true then _ else _
      rw [if_neg Bool.false_ne_true]
      refine ⟨_, rfl, _, rfl, b, rfl, _, _, rfl, rfl, .inl ⟨by omega, by omega⟩, _, rfl, _, _, rfl, rfl, .inl ⟨by omega, by omega⟩, _, rfl, _, rfl, _, _, rfl, rfl, .inl ⟨by omega, by omega⟩, (by show 2 ≤ sizeLine; decide), fun t1 h1 => ?_⟩
      exact fin (_, _) _ t1 s1 h1 (by unfold dvd; rw [if_neg (fun z => h1' z.1)])
def spDivide : Sp := spDivided
theorem ok_divide (T : Txt K mg) : FnOk P w K mg base CX0 3 T.a_divide T.d_divide ["rule", "x", "base"] spDivide := by
  refine T.divide.F.ok sc_divide (fun vs H Q E h => ?_) (fun cdv A outer s H vs Q E hr h => ?_)
  · obtain ⟨r, x, b, rfl, _⟩ := h
    rfl
  · obtain ⟨r, x, b, rfl, hb, hb2, q⟩ := h
    refine ⟨_, (pss_cons (ps_expr (pe_call (ok_require_rule T) (hr.mono (by decide)) (by rfl) T.require_rule.mgf T.require_rule.F.kp T.require_rule.b .nil pass0 (pa_cons (pv 0) pa_nil)))
      (pss_cons (ps_if (pt_not (pt_val (pe_call (ok_is_integer T) (hr.mono (by decide)) (by rfl) T.is_integer.mgf T.is_integer.F.kp T.is_integer.b .nil pass0 (pa_cons (pv 1) pa_nil)))) (pss_one ps_never) pss_nil)
      (pss_cons (ps_if (PW.pt (pw_or (pt_not (pt_val (pe_call (ok_is_integer T) (hr.mono (by decide)) (by rfl) T.is_integer.mgf T.is_integer.F.kp T.is_integer.b .nil pass0 (pa_cons (pv 2) pa_nil)))) (pw_or1 (pt_cmpR op_eq (pv 2) pe_int (nomark _))))) (pss_one ps_never) pss_nil)
      (pss_one (ps_ret (pe_call (ok_divided T) (hr.mono (by decide)) (by rfl) T.divided.mgf T.divided.F.kp T.divided.b .nil pass0 (pa_cons (pv 0) (pa_cons (pv 1) (pa_cons (pv 2) pa_nil))))))))), ?_⟩
    refine ⟨_, rfl, r, rfl, ?_⟩
    refine ⟨_, rfl, x, rfl, _, rfl, ?_⟩
    show if false = true then _ else _
    rw [if_neg Bool.false_ne_true]
    refine ⟨_, rfl, b, rfl, _, rfl, ?_⟩
    refine ⟨_, rfl, rfl, _, rfl, ?_⟩
    have e : decide (V.int b = V.int 0) = false := decide_eq_false fun e => hb (V.int.inj e)
    rw [e]
    exact ⟨_, rfl, _, rfl, _, rfl, r, x, b, rfl, hb, hb2, q⟩
def spCarried : Sp := fun vs H Q _ => ∃ (r : Rl) (s b f : Int), vs = [.str r.name, .int s, .int b, .int f] ∧ (s = 1 ∨ s = -1) ∧ 2 ≤ ab b ∧ ab b ≤ 10 ∧ 0 ≤ f ∧ f ≤ ab b ∧ ∀ (t : Addr) (H' : Hp), H t = none → Same H H' → H' t = some (.tup [.int (car r s b f).1, .int (car r s b f).2]) → Q (.ref t) H'
theorem ok_carried (T : Txt K mg) : FnOk P w K mg base CX0 2 T.a_carried T.d_carried ["rule", "sign", "base", "figure"] spCarried := by
  refine T.carried.F.ok sc_carried (fun vs H Q E h => ?_) (fun cdv A outer s H vs Q E hr h => ?_)
  · obtain ⟨r, s, b, f, rfl, _⟩ := h
    rfl
  · obtain ⟨r, s, b, f, rfl, hs, hb, hb2, hf, hf2, q⟩ := h
    have fin : ∀ (u : Int × Int) (t1 : Addr), H t1 = none → car r s b f = u → Q (.ref t1) (upd H t1 (.tup [.int u.1, .int u.2])) := fun u t1 h1 e => by
      refine q t1 _ h1 (fun c o hc => ?_) ?_
      · rw [upd_ne (ne_of_none hc h1)]
        exact hc
      · rw [upd_same, e]
    refine ⟨_, (pss_cons (ps_set (i := 4) sc_carried.nd rfl (Or.inl rfl) (pe_callB call_absA (by rfl) T.g_abs (by decide +kernel) (pa_cons (pv 2) pa_nil)))
      (pss_cons (ps_if (pt_cmpR op_eq (pv 3) (pv 4) (nomark _)) (pss_one (ps_ret (pe_tup (pa_cons pe_int (pa_cons pe_int pa_nil))))) pss_nil)
      (pss_cons (ps_if (PW.pt (pw_and (pt_cmpR op_gt (pv 3) pe_int (nomark _)) (pw_and1 (pt_val (pe_call (ok_is_greater T) (hr.mono (by decide)) (by rfl) T.is_greater.mgf T.is_greater.F.kp T.is_greater.b .nil pass0 (pa_cons (pv 0) (pa_cons (pv 1) (pa_cons (pe_call (ok_sign_of T) (hr.mono (by decide)) (by rfl) T.sign_of.mgf T.sign_of.F.kp T.sign_of.b .nil pass0 (pa_cons (pv 2) pa_nil)) (pa_cons (pv 3) (pa_cons (pv 4) pa_nil)))))))))) (pss_one (ps_ret (pe_tup (pa_cons pe_int (pa_cons (pe_op op_mul (pv 1) (pe_op op_sub (pv 3) (pv 4))) pa_nil))))) pss_nil)
      (pss_one (ps_ret (pe_tup (pa_cons pe_int (pa_cons (pe_op op_mul (pv 1) (pv 3)) pa_nil)))))))), ?_⟩
    refine ⟨_, rfl, _, rfl, ?_⟩
    refine ⟨_, rfl, _, rfl, rfl, _, rfl, ?_⟩
    have e : decide (V.int f = V.int (ab b)) = decide (f = ab b) := decide_eq_decide.mpr ⟨fun e => V.int.inj e, fun e => by rw [e]⟩
    rw [e]
    refine ite2 (fun h1 => ?_) (fun h1 => ?_)
    · have h1' := of_decide_eq_true h1
      refine ⟨(by show 2 ≤ sizeLine; decide), fun t ht => ?_⟩
      exact fin (1, 0) t ht (by unfold car; rw [if_pos h1'])
    · have h1' : ¬ f = ab b := fun z => h1 (decide_eq_true z)
      refine ⟨_, rfl, _, _, rfl, rfl, _, rfl, ?_⟩
      refine ite2 (fun h2 => ?_) (fun h2 => ?_)
      · have h2' : 0 < f := of_decide_eq_true h2
        refine ⟨_, rfl, _, rfl, _, rfl, b, rfl, _, rfl, _, rfl, r, s, sgn b, _, _, rfl, by omega, _, rfl, ?_⟩
        refine ite2 (fun h3 => ?_) (fun h3 => ?_)
        · refine ⟨_, rfl, _, rfl, _, rfl, _, _, rfl, rfl, _, _, rfl, rfl, .inl ⟨by omega, by omega⟩, (by show 2 ≤ sizeLine; decide), fun t ht => ?_⟩
          exact fin (_, _) t ht (by unfold car; rw [if_neg h1', if_pos ⟨h2', h3⟩])
        · refine ⟨_, rfl, _, rfl, _, _, rfl, rfl, .inl ⟨by omega, by omega⟩, (by show 2 ≤ sizeLine; decide), fun t ht => ?_⟩
          exact fin (_, _) t ht (by unfold car; rw [if_neg h1', if_neg (fun z => h3 z.2)])
      · have h2' : ¬ 0 < f := fun z => h2 (decide_eq_true z)
        show if false = true then _ else _
        rw [if_neg Bool.false_ne_true]
        refine ⟨_, rfl, _, rfl, _, _, rfl, rfl, .inl ⟨by omega, by omega⟩, (by show 2 ≤ sizeLine; decide), fun t ht => ?_⟩
        exact fin (_, _) t ht (by unfold car; rw [if_neg h1', if_neg (fun z => h2' z.1)])
theorem ok_carry (T : Txt K mg) : FnOk P w K mg base CX0 3 T.a_carry T.d_carry ["rule", "sign", "base", "figure"] spCarried := by
  refine T.carry.F.ok sc_carry (fun vs H Q E h => ?_) (fun cdv A outer s H vs Q E hr h => ?_)
  · obtain ⟨r, s, b, f, rfl, _⟩ := h
    rfl
  · obtain ⟨r, s, b, f, rfl, hs, hb, hb2, hf, hf2, q⟩ := h
    refine ⟨_, (pss_cons (ps_expr (pe_call (ok_require_rule T) (hr.mono (by decide)) (by rfl) T.require_rule.mgf T.require_rule.F.kp T.require_rule.b .nil pass0 (pa_cons (pv 0) pa_nil)))
      (pss_cons (ps_if (pt_not (pt_val (pe_call (ok_is_sign T) (hr.mono (by decide)) (by rfl) T.is_sign.mgf T.is_sign.F.kp T.is_sign.b .nil pass0 (pa_cons (pv 1) pa_nil)))) (pss_one ps_never) pss_nil)
      (pss_cons (ps_if (pt_not (pt_val (pe_call (ok_is_base T) (hr.mono (by decide)) (by rfl) T.is_base.mgf T.is_base.F.kp T.is_base.b .nil pass0 (pa_cons (pv 2) pa_nil)))) (pss_one ps_never) pss_nil)
      (pss_cons (ps_if (pt_not (pt_val (pe_call (ok_is_between T) (hr.mono (by decide)) (by rfl) T.is_between.mgf T.is_between.F.kp T.is_between.b .nil pass0 (pa_cons (pv 3) (pa_cons pe_int (pa_cons (pe_callB call_absA (by rfl) T.g_abs (by decide +kernel) (pa_cons (pv 2) pa_nil)) pa_nil)))))) (pss_one ps_never) pss_nil)
      (pss_one (ps_ret (pe_call (ok_carried T) (hr.mono (by decide)) (by rfl) T.carried.mgf T.carried.F.kp T.carried.b .nil pass0 (pa_cons (pv 0) (pa_cons (pv 1) (pa_cons (pv 2) (pa_cons (pv 3) pa_nil))))))))))), ?_⟩
    refine ⟨_, rfl, r, rfl, ?_⟩
    refine ⟨_, rfl, s, rfl, hs, fun H1 s1 => ⟨_, rfl, iteF ?_⟩⟩
    refine ⟨_, rfl, b, rfl, hb, hb2, _, rfl, iteF ?_⟩
    refine ⟨_, rfl, _, rfl, _, rfl, f, 0, ab b, rfl, _, rfl, ?_⟩
    have e1 : decide ((0 : Int) ≤ f) = true := decide_eq_true hf
    have e2 : decide (f ≤ ab b) = true := decide_eq_true hf2
    rw [e1, e2]
    refine iteF ?_
    exact ⟨_, rfl, _, rfl, _, rfl, _, rfl, r, s, b, f, rfl, hs, hb, hb2, hf, hf2, fun t H' ht sm => q t H' (s1.free ht) (s1.trans sm)⟩

def spNames : Sp := fun vs H Q _ => vs = [] ∧ ∀ (l : Addr) (H' : Hp), H l = none → Same H H' → H' l = some (.lst ruleVs) → Q (.ref l) H'
theorem ok_rule_names (T : Txt K mg) : FnOk P w K mg base CX0 1 T.a_rule_names T.d_rule_names [] spNames := by
  refine T.rule_names.F.ok sc_rule_names (fun vs H Q E h => ?_) (fun cdv A outer s H vs Q E hr h => ?_)
  · obtain ⟨rfl, _⟩ := h
    rfl
  · obtain ⟨rfl, q⟩ := h
    refine ⟨_, (pss_one (ps_ret (pe_callTy call_list_of (by rfl) T.g_list (by decide +kernel) (pa_cons (pe_glob (v := .ref T.a_RULES) (by rfl) T.c_RULES rfl) pa_nil)))), ?_⟩
    exact ⟨T.a_RULES, ruleVs, rfl, .inr (T.t_RULES _), fun l hl => q l _ hl (fun c o hc => by rw [upd_ne (ne_of_none hc hl)]; exact hc) upd_same⟩
theorem b2 {c d : Bool} {p q : Prop} [Decidable p] [Decidable q] (h1 : c = decide p) (h2 : d = decide q) : (if (c && d) = true then (1 : Int) else 0) = if p ∧ q then 1 else 0 := by
  subst h1 h2
  simp only [Bool.and_eq_true, decide_eq_true_eq]
def spDivL : Sp := fun vs H Q _ => ∃ (r : Rl) (x b : Int), vs = [.str r.name, .int x, .int b] ∧ b ≠ 0 ∧ ab b < 2 ^ 50 ∧ ∀ (t : Addr) (H' : Hp), H t = none → Same H H' → H' t = some (.tup [.int (ldv r x b).1, .int (ldv r x b).2]) → Q (.ref t) H'
theorem ok_l_divide (T : Txt K mg) : FnOk P w K mg base CX0 1 T.a_l_divide T.d_l_divide ["_law_rule", "_law_x", "_law_base"] spDivL := by
  refine T.l_divide.F.ok sc_l_divide (fun vs H Q E h => ?_) (fun cdv A outer s H vs Q E hr h => ?_)
  · obtain ⟨r, x, b, rfl, _⟩ := h
    rfl
  · obtain ⟨r, x, b, rfl, hb, hb2, q⟩ := h
    have hz := ab_pos hb
    have hd : ∀ i, CDivW i (ab b) := fun i => wide_div hz (b := 100) (by omega) (by decide) (by decide)
    have spn : (1 : Int) - 2 * (if decide (b < 0) = true then 1 else 0) = 1 - 2 * (if b < 0 then 1 else 0) := by simp only [decide_eq_true_eq]
    have spn1 : (1 : Int) - 2 * (if b < 0 then 1 else 0) ≤ 1 ∧ -1 ≤ (1 : Int) - 2 * (if b < 0 then 1 else 0) := by split <;> omega
    have fin : ∀ (p : Int) (t1 : Addr), H t1 = none → ldr r x b = p → Q (.ref t1) (upd H t1 (.tup [.int ((x - p) / ab b * (1 - 2 * (if b < 0 then 1 else 0))), .int p])) := fun p t1 h1 e => by
      refine q t1 _ h1 (fun c o hc => ?_) ?_
      · rw [upd_ne (ne_of_none hc h1)]
        exact hc
      · rw [upd_same]
        unfold ldv
        rw [e]
    refine ⟨_, (pss_cons (ps_par (i := 3) (j := 4) (by rfl) sc_l_divide.nd rfl rfl (by decide) rfl rfl (pa_cons (pe_callB call_absA (by rfl) T.g_abs (by decide +kernel) (pa_cons (pv 2) pa_nil)) (pa_cons (pe_op op_sub pe_int (pe_op op_mul pe_int (pe_callTy call_int1 (by rfl) T.g_int (by decide +kernel) (pa_cons (pe_cmpR op_lt (pv 2) pe_int (nomark _)) pa_nil)))) pa_nil)) (by rfl))
      (pss_cons (ps_set (i := 5) sc_l_divide.nd rfl (Or.inl rfl) (pe_op op_mod (pe_callTy call_int1 (by rfl) T.g_int (by decide +kernel) (pa_cons (pv 1) pa_nil)) (pv 3)))
      (pss_cons (ps_if (pt_cmpR op_eq (pv 0) pe_str (nomark _)) (pss_one (ps_set (i := 5) sc_l_divide.nd rfl (Or.inl rfl) (pe_op op_sub (pv 5) (pe_op op_mul (pv 3) (pe_callTy call_int1 (by rfl) T.g_int (by decide +kernel) (pa_cons (pe_and (pe_cmpR op_lt (pv 2) pe_int (nomark _)) (pe_one (pe_cmpR op_gt (pv 5) pe_int (nomark _)))) pa_nil)))))) (pss_one (ps_if (pt_cmpR op_eq (pv 0) pe_str (nomark _)) (pss_one (ps_set (i := 5) sc_l_divide.nd rfl (Or.inl rfl) (pe_op op_sub (pv 5) (pe_op op_mul (pv 3) (pe_callTy call_int1 (by rfl) T.g_int (by decide +kernel) (pa_cons (pe_and (pe_cmpR op_gt (pv 2) pe_int (nomark _)) (pe_one (pe_cmpR op_gt (pv 5) pe_int (nomark _)))) pa_nil)))))) (pss_one (ps_if (pt_cmpR op_eq (pv 0) pe_str (nomark _)) (pss_one (ps_set (i := 5) sc_l_divide.nd rfl (Or.inl rfl) (pe_op op_sub (pv 5) (pe_op op_mul (pv 3) (pe_callTy call_int1 (by rfl) T.g_int (by decide +kernel) (pa_cons (pe_and (pe_cmpR op_lt (pv 1) pe_int (nomark _)) (pe_one (pe_cmpR op_gt (pv 5) pe_int (nomark _)))) pa_nil)))))) (pss_one (ps_if (pt_cmpR op_eq (pv 0) pe_str (nomark _)) (pss_one (ps_set (i := 5) sc_l_divide.nd rfl (Or.inl rfl) (pe_op op_sub (pv 5) (pe_op op_mul (pv 3) (pe_callTy call_int1 (by rfl) T.g_int (by decide +kernel) (pa_cons (pe_cmpR op_gt (pe_op op_mul pe_int (pv 5)) (pv 3) (nomark _)) pa_nil)))))) pss_nil)))))))
      (pss_one (ps_ret (pe_tup (pa_cons (pe_op op_mul (pe_op op_fdivW (pe_op op_sub (pv 1) (pv 5)) (pv 3)) (pv 4)) (pa_cons (pv 5) pa_nil)))))))), ?_⟩
    refine ⟨_, rfl, _, rfl, _, rfl, _, _, rfl, rfl, .inr ⟨_, rfl, _, _, rfl, rfl, .inl ⟨by decide, by decide⟩, _, _, rfl, rfl, _, _, rfl, ?_⟩⟩
    refine ⟨_, rfl, .inl ⟨_, rfl, _, rfl, _, _, rfl, rfl, hz, ?_⟩⟩
    refine ⟨_, rfl, rfl, _, rfl, ?_⟩
    have last : ∀ (p : Int) (σ : L2.St), ldr r x b = p → σ = [some (.str r.name), some (.int x), some (.int b), some (.int (ab b)), some (.int (1 - 2 * (if decide (b < 0) = true then 1 else 0))), some (.int p)] →
        tRet (tTup (tCons (tOp (rI CMul fun i j => V.int (i * j)) (tOp (rI CDivW fun i j => V.int (i / j)) (tOp (rI0 fun i j => V.int (i - j)) (tVar 1) (tVar 5)) (tVar 3)) (tVar 4)) (tCons (tVar 5) tNil))) { nx := fun _ H' => Q .non H', rt := Q } σ H := fun p σ e es => by
      rw [spn] at es
      subst es
      exact ⟨_, rfl, _, rfl, _, _, rfl, rfl, _, rfl, _, _, rfl, rfl, hd _, _, rfl, _, _, rfl, rfl, .inr ⟨by omega, by omega⟩, _, rfl, (by show 2 ≤ sizeLine; decide), fun t ht => fin p t ht e⟩
    cases r with
    | down =>
      refine iteDT (by decide +kernel) ?_
      refine ⟨_, rfl, _, rfl, _, rfl, _, _, rfl, rfl, _, rfl, ?_⟩
      refine iteB (fun h => ?_) (fun h => ?_)
      · have h' := of_decide_eq_true h
        refine ⟨_, rfl, _, _, rfl, rfl, .inr ⟨_, rfl, _, _, rfl, rfl, .inr ⟨by split <;> decide, by split <;> decide⟩, _, _, rfl, rfl, last _ _ ?_ rfl⟩⟩
        show x % ab b - ab b * (if b < 0 ∧ 0 < x % ab b then 1 else 0) = _
        simp [h']
      · have h' := of_decide_eq_false h
        refine .inr ⟨_, rfl, _, _, rfl, rfl, .inr ⟨by decide, by decide⟩, _, _, rfl, rfl, last _ _ ?_ rfl⟩
        show x % ab b - ab b * (if b < 0 ∧ 0 < x % ab b then 1 else 0) = _
        simp [h']
    | up =>
      refine iteDF (by decide +kernel) ?_
      refine ⟨_, rfl, rfl, _, rfl, ?_⟩
      refine iteDT (by decide +kernel) ?_
      refine ⟨_, rfl, _, rfl, _, rfl, _, _, rfl, rfl, _, rfl, ?_⟩
      refine iteB (fun h => ?_) (fun h => ?_)
      · have h' := of_decide_eq_true h
        refine ⟨_, rfl, _, _, rfl, rfl, .inr ⟨_, rfl, _, _, rfl, rfl, .inr ⟨by split <;> decide, by split <;> decide⟩, _, _, rfl, rfl, last _ _ ?_ rfl⟩⟩
        show x % ab b - ab b * (if 0 < b ∧ 0 < x % ab b then 1 else 0) = _
        simp [h']
      · have h' := of_decide_eq_false h
        refine .inr ⟨_, rfl, _, _, rfl, rfl, .inr ⟨by decide, by decide⟩, _, _, rfl, rfl, last _ _ ?_ rfl⟩
        show x % ab b - ab b * (if 0 < b ∧ 0 < x % ab b then 1 else 0) = _
        simp [h']
    | zero =>
      refine iteDF (by decide +kernel) ?_
      refine ⟨_, rfl, rfl, _, rfl, ?_⟩
      refine iteDF (by decide +kernel) ?_
      refine ⟨_, rfl, rfl, _, rfl, ?_⟩
      refine iteDT (by decide +kernel) ?_
      refine ⟨_, rfl, _, rfl, _, rfl, _, _, rfl, rfl, _, rfl, ?_⟩
      refine iteB (fun h => ?_) (fun h => ?_)
      · have h' := of_decide_eq_true h
        refine ⟨_, rfl, _, _, rfl, rfl, .inr ⟨_, rfl, _, _, rfl, rfl, .inr ⟨by split <;> decide, by split <;> decide⟩, _, _, rfl, rfl, last _ _ ?_ rfl⟩⟩
        show x % ab b - ab b * (if x < 0 ∧ 0 < x % ab b then 1 else 0) = _
        simp [h']
      · have h' := of_decide_eq_false h
        refine .inr ⟨_, rfl, _, _, rfl, rfl, .inr ⟨by decide, by decide⟩, _, _, rfl, rfl, last _ _ ?_ rfl⟩
        show x % ab b - ab b * (if x < 0 ∧ 0 < x % ab b then 1 else 0) = _
        simp [h']
    | positive =>
      refine iteDF (by decide +kernel) ?_
      refine ⟨_, rfl, rfl, _, rfl, ?_⟩
      refine iteDF (by decide +kernel) ?_
      refine ⟨_, rfl, rfl, _, rfl, ?_⟩
      refine iteDF (by decide +kernel) ?_
      refine ⟨_, rfl, rfl, _, rfl, ?_⟩
      refine iteDF (by decide +kernel) ?_
      exact last _ _ rfl rfl
    | near =>
      refine iteDF (by decide +kernel) ?_
      refine ⟨_, rfl, rfl, _, rfl, ?_⟩
      refine iteDF (by decide +kernel) ?_
      refine ⟨_, rfl, rfl, _, rfl, ?_⟩
      refine iteDF (by decide +kernel) ?_
      refine ⟨_, rfl, rfl, _, rfl, ?_⟩
      refine iteDT (by decide +kernel) ?_
      refine ⟨_, rfl, _, rfl, _, rfl, _, _, rfl, rfl, .inl ⟨by decide, by decide⟩, _, rfl, _, _, rfl, rfl, ?_⟩
      refine .inr ⟨_, rfl, _, _, rfl, rfl, .inr ⟨by split <;> decide, by split <;> decide⟩, _, _, rfl, rfl, ?_⟩
      refine last _ _ ?_ rfl
      show x % ab b - ab b * (if ab b < 2 * (x % ab b) then 1 else 0) = _
      simp only [decide_eq_true_eq]
def spNumber : Sp := fun vs H Q _ => ∃ p : Addr, vs = [.ref p] ∧ Pool H p ∧ ∀ (x : Int) (H' : Hp), -(2 ^ 70) < x → x < 2 ^ 70 → Dr p H H' → Q (.int x) H'
theorem ok_l_number (T : Txt K mg) : FnOk P w K mg base CX0 3 T.a_l_number T.d_l_number ["_law_pool_here"] spNumber := by
  refine T.l_number.F.ok sc_l_number (fun vs H Q E h => ?_) (fun cdv A outer s H vs Q E hr h => ?_)
  · obtain ⟨p, rfl, _⟩ := h
    rfl
  · obtain ⟨p, rfl, hp, q⟩ := h
    refine ⟨_, (pss_cons (ps_set (i := 1) sc_l_number.nd rfl (Or.inl rfl) (pe_lst (pa_cons (pe_op op_sub (pe_call (ok_l_draw T) (hr.mono (by decide)) (by rfl) T.l_draw.mgf T.l_draw.F.kp T.l_draw.b .nil pass0 (pa_cons (pv 0) (pa_cons pe_int pa_nil))) pe_int) (pa_cons (pe_op op_sub (pe_call (ok_l_draw T) (hr.mono (by decide)) (by rfl) T.l_draw.mgf T.l_draw.F.kp T.l_draw.b .nil pass0 (pa_cons (pv 0) (pa_cons pe_int pa_nil))) pe_int) (pa_cons (pe_op op_sub (pe_call (ok_l_draw T) (hr.mono (by decide)) (by rfl) T.l_draw.mgf T.l_draw.F.kp T.l_draw.b .nil pass0 (pa_cons (pv 0) (pa_cons (pe_op op_pow pe_int pe_int) pa_nil))) (pe_op op_pow pe_int pe_int)) pa_nil)))))
      (pss_one (ps_ret (pe_call (ok_l_choose T) (hr.mono (by decide)) (by rfl) T.l_choose.mgf T.l_choose.F.kp T.l_choose.b .nil pass0 (pa_cons (pv 0) (pa_cons (pv 1) pa_nil)))))), ?_⟩
    refine ⟨_, rfl, p, _, rfl, hp, by decide, by decide, fun d1 H1 a1 b1 D1 => ⟨_, _, rfl, rfl, ?_⟩⟩
    refine ⟨_, rfl, p, _, rfl, D1.2, by decide, by decide, fun d2 H2 a2 b2 D2 => ⟨_, _, rfl, rfl, ?_⟩⟩
    refine ⟨_, rfl, _, _, rfl, rfl, ⟨by decide, by decide, by decide⟩, p, _, rfl, D2.2, by decide, by decide, fun d3 H3 a3 b3 D3 => ⟨_, _, rfl, rfl, ⟨by decide, by decide, by decide⟩, _, _, rfl, rfl, ?_⟩⟩
    have D13 := (D1.trans D2).trans D3
    have b3' : d3 < 100000000000000000000 := b3
    refine ⟨(by show 3 ≤ sizeLine; decide), fun l hl => ?_⟩
    have D14 := D13.new (o := .lst [.int (d1 - 20), .int (d2 - 1000), .int (d3 - 10 ^ Int.toNat 19)]) hl
    refine ⟨_, rfl, _, rfl, p, l, _, rfl, D14.2, SqL.of upd_same, by simp, by simp, (D13.free hl).1, fun v H' hv D5 => ?_⟩
    have D := D14.trans D5
    simp only [List.mem_cons, List.not_mem_nil, or_false] at hv
    rcases hv with rfl | rfl | rfl
    · exact q _ _ (by omega) (by omega) D
    · exact q _ _ (by omega) (by omega) D
    · have e : (10 : Int) ^ Int.toNat 19 = 10000000000000000000 := by decide
      show Q (.int (d3 - 10 ^ Int.toNat 19)) H'
      rw [e]
      exact q _ _ (by omega) (by omega) D
def spCarries : Sp := fun vs H Q _ => ∃ (r : Rl) (s b m : Int), vs = [.str r.name, .int s, .int b, .int m] ∧ (s = 1 ∨ s = -1) ∧ 2 ≤ ab b ∧ ab b ≤ 10 ∧ 0 ≤ m ∧ ∀ H', Same H H' → Q (.bl true) H'
theorem ok_l_carries_right (T : Txt K mg) : FnOk P w K mg base CX0 4 T.a_l_carries_right T.d_l_carries_right ["_law_rule", "_law_sign", "_law_base", "_law_high"] spCarries := by
  refine T.l_carries_right.F.ok sc_l_carries_right (fun vs H Q E h => ?_) (fun cdv A outer s H vs Q E hr h => ?_)
  · obtain ⟨r, s, b, m, rfl, _⟩ := h
    rfl
  · obtain ⟨r, s, b, m, rfl, hs, hb, hb2, hm, q⟩ := h
    have hb0 : b ≠ 0 := by
      intro e
      rw [e] at hb
      exact absurd hb (by decide)
    refine ⟨_, (pss_cons (ps_set (i := 4) sc_l_carries_right.nd rfl (Or.inl rfl) (pe_callB call_absA (by rfl) T.g_abs (by decide +kernel) (pa_cons (pv 2) pa_nil)))
      (pss_cons (ps_for PassesOwn.never (by rfl) (pi_range1 (by rfl) T.g_range (pa_cons (pe_op op_add (pv 4) pe_int) pa_nil)) (pg_name (i := 5) sc_l_carries_right.nd rfl (Or.inl rfl))
      (pss_cons (ps_set (i := 6) sc_l_carries_right.nd rfl (Or.inl rfl) (pe_op op_mul (pv 1) (pe_op op_add (pe_op op_mul (pv 4) (pv 3)) (pv 5))))
      (pss_cons (ps_asg (pe_call (ok_l_divide T) (hr.mono (by decide)) (by rfl) T.l_divide.mgf T.l_divide.F.kp T.l_divide.b .nil pass0 (pa_cons (pv 0) (pa_cons (pv 6) (pa_cons (pv 2) pa_nil)))) (pg_tup rfl (pgs_cons (pg_name (i := 7) sc_l_carries_right.nd rfl (Or.inl rfl)) (pgs_cons (pg_name (i := 8) sc_l_carries_right.nd rfl (Or.inl rfl)) pgs_nil))))
      (pss_cons (ps_set (i := 9) sc_l_carries_right.nd rfl (Or.inl rfl) (pe_op op_mul (pv 1) (pe_op op_sub pe_int (pe_op op_mul pe_int (pe_callTy call_int1 (by rfl) T.g_int (by decide +kernel) (pa_cons (pe_cmpR op_lt (pv 2) pe_int (nomark _)) pa_nil))))))
      (pss_one (ps_if (pt_cmpR (op_neD hr.units) (pe_call (ok_carry T) (hr.mono (by decide)) (by rfl) T.carry.mgf T.carry.F.kp T.carry.b .nil pass0 (pa_cons (pv 0) (pa_cons (pv 1) (pa_cons (pv 2) (pa_cons (pv 5) pa_nil))))) (pe_tup (pa_cons (pe_op op_sub (pe_op op_mul (pv 9) (pv 7)) (pv 3)) (pa_cons (pv 8) pa_nil))) (nomark _)) (pss_one (ps_ret pe_bl)) pss_nil))))))
      (pss_one (ps_ret pe_bl)))), ?_⟩
    refine ⟨_, rfl, _, rfl, ?_⟩
    refine ⟨_, rfl, _, _, rfl, rfl, _, rfl, by omega, by omega, for_range (lo := 0) (fun i σ H' => Same H H' ∧ ∃ v5 v6 v7 v8 v9, σ = [some (.str r.name), some (.int s), some (.int b), some (.int m), some (.int (ab b)), v5, v6, v7, v8, v9]) ⟨Same.refl _, _, _, _, _, _, rfl⟩ ?_ ?_⟩
    · rintro i σ H' hi ⟨sm, v5, v6, v7, v8, v9, rfl⟩
      rw [Int.zero_add]
      have hi2 : (i : Int) ≤ ab b := by omega
      refine ⟨_, rfl, _, rfl, _, rfl, _, _, rfl, rfl, .inl ⟨by omega, by omega⟩, _, rfl, _, _, rfl, rfl, _, _, rfl, rfl, .inl ⟨by omega, by omega⟩, ?_⟩
      refine ⟨_, rfl, _, rfl, _, rfl, r, s * (ab b * m + i), b, rfl, hb0, by omega, fun t H1 ht s1 h1 => ?_⟩
      refine ⟨t, _, rfl, SqT.of h1, rfl, _, _, rfl, _, _, rfl, rfl, ?_⟩
      refine ⟨_, rfl, _, rfl, _, _, rfl, rfl, .inr ⟨_, rfl, _, _, rfl, rfl, .inl ⟨by decide, by decide⟩, _, _, rfl, rfl, _, _, rfl, rfl, .inl ⟨by omega, by omega⟩, ?_⟩⟩
      refine ⟨_, rfl, _, rfl, _, rfl, _, rfl, r, s, b, i, rfl, hs, hb, hb2, by omega, hi2, fun t2 H2 ht2 s2 h2 => ?_⟩
      have hsp : s * (1 - 2 * (if decide (b < 0) = true then 1 else 0)) = 1 ∨ s * (1 - 2 * (if decide (b < 0) = true then (1 : Int) else 0)) = -1 := by split <;> omega
      refine ⟨_, rfl, _, rfl, _, _, rfl, rfl, .inl ⟨by omega, by omega⟩, _, rfl, _, _, rfl, rfl, _, rfl, (by show 2 ≤ sizeLine; decide), fun t3 ht3 => ?_⟩
      have n23 : t2 ≠ t3 := ne_of_none h2 ht3
      refine ⟨.tuple [.int (car r s b i).1, .int (car r s b i).2], .tuple [.int _, .int _], .tup (SqT.of (by rw [upd_ne n23]; exact h2)) (.cons (.int _) (.cons (.int _) .nil)), .tup (SqT.of upd_same) (.cons (.int _) (.cons (.int _) .nil)), rfl, rfl, _, rfl, ?_⟩
      have e := car_dvd r hs hb0 (f := (i : Int)) (by omega) hi2 hm
      rw [dvd_ldv r _ _ hb0] at e
      have hd : (if decide (b < 0) = true then (1 : Int) else 0) = if b < 0 then 1 else 0 := by simp only [decide_eq_true_eq]
      rw [e, hd]
      refine iteBF ?_ ?_
      · rw [SeqAt.eqv_refl _ rfl]
        rfl
      · exact ⟨same_new ((sm.trans s1).trans s2) ht3, _, _, _, _, _, rfl⟩
    · rintro σ H' ⟨sm, v5, v6, v7, v8, v9, rfl⟩
      exact q H' sm
theorem dp_rules {H : Hp} {l : Addr} (h : SqL K H l ruleVs) : Dp K H (.ref l) (.list [.str "down", .str "up", .str "zero", .str "positive", .str "near"]) := .lst h (.cons (.str _) (.cons (.str _) (.cons (.str _) (.cons (.str _) (.cons (.str _) .nil)))))
def spLaw (K : PySem.W.Frag) : Sp := fun vs H Q _ => ∃ (a : Addr) (ns : List Int), vs = [.ref a] ∧ SqL K H a (ns.map V.int) ∧ ns.length ≤ 63 ∧ ∀ H', Q (.bl true) H'
theorem ok_law {f : Addr} {fd : FuncData} (F : Fun K "law" "law" s_law f fd) (T : Txt K mg) : FnOk P w K mg base CX0 6 f fd ["_law_script"] (spLaw K) := by
  refine F.ok sc_law (fun vs H Q E h => ?_) (fun cdv A outer s H vs Q E hr h => ?_)
  · obtain ⟨a, ns, rfl, _⟩ := h
    rfl
  · obtain ⟨a, ns, rfl, hS, hlen, k⟩ := h
    refine ⟨_, (pss_cons (ps_set (i := 1) sc_law.nd rfl (Or.inl rfl) (pe_lst (pa_cons pe_str (pa_cons pe_str (pa_cons pe_str (pa_cons pe_str (pa_cons pe_str pa_nil)))))))
      (pss_cons (ps_set (i := 2) sc_law.nd rfl (Or.inl rfl) (pe_call0 (ok_rule_names T) (hr.mono (by decide)) (by rfl) T.rule_names.mgf T.rule_names.F.kp T.rule_names.b .nil pass0))
      (pss_cons (ps_expr (pe_bm0 PySem.F.plainAttrs_list PySem.F.slot_list_clear PySem.F.type_list_clear mt_clear (pv 2)))
      (pss_cons (ps_if (PW.pt (pw_or (pt_cmpR (op_neD hr.units) (pe_call0 (ok_rule_names T) (hr.mono (by decide)) (by rfl) T.rule_names.mgf T.rule_names.F.kp T.rule_names.b .nil pass0) (pv 1) (nomark _)) (pw_or1 (pt_cmpR (op_neD hr.units) (pe_call (ok_carry T) (hr.mono (by decide)) (by rfl) T.carry.mgf T.carry.F.kp T.carry.b .nil pass0 (pa_cons pe_str (pa_cons (pe_un un_neg pe_int) (pa_cons pe_int (pa_cons pe_int pa_nil))))) (pe_tup (pa_cons pe_int (pa_cons pe_int pa_nil))) (nomark _))))) (pss_one (ps_ret pe_bl)) pss_nil)
      (pss_cons (ps_for PassesOwn.never (by rfl) (pi_range1 (by rfl) T.g_range (pa_cons (pe_callB (call_max2 rfl) (by rfl) T.g_max (by decide +kernel) (pa_cons pe_int (pa_cons (pe_callB (call_min2 rfl) (by rfl) T.g_min (by decide +kernel) (pa_cons (pe_callB call_len_seq (by rfl) T.g_len (by decide +kernel) (pa_cons (pv 0) pa_nil)) (pa_cons pe_int pa_nil))) pa_nil))) pa_nil)) (pg_name (i := 3) sc_law.nd rfl (Or.inl rfl))
      (pss_cons (ps_set (i := 4) sc_law.nd rfl (Or.inl rfl) (pe_call (ok_l_pool T) (hr.mono (by decide)) (by rfl) T.l_pool.mgf T.l_pool.F.kp T.l_pool.b .nil pass0 (pa_cons (pv 0) (pa_cons (pv 3) pa_nil))))
      (pss_cons (ps_for PassesOwn.never (by rfl) (pi_range1 (by rfl) T.g_range (pa_cons pe_int pa_nil)) (pg_name (i := 5) sc_law.nd rfl (Or.inl rfl))
      (pss_cons (ps_par (i := 6) (j := 7) (by rfl) sc_law.nd rfl rfl (by decide) rfl rfl (pa_cons (pe_call (ok_l_choose T) (hr.mono (by decide)) (by rfl) T.l_choose.mgf T.l_choose.F.kp T.l_choose.b .nil pass0 (pa_cons (pv 4) (pa_cons (pv 1) pa_nil))) (pa_cons (pe_call (ok_l_number T) (hr.mono (by decide)) (by rfl) T.l_number.mgf T.l_number.F.kp T.l_number.b .nil pass0 (pa_cons (pv 4) pa_nil)) pa_nil)) (by rfl))
      (pss_cons (ps_set (i := 8) sc_law.nd rfl (Or.inl rfl) (pe_op op_mul (pe_call (ok_l_choose T) (hr.mono (by decide)) (by rfl) T.l_choose.mgf T.l_choose.F.kp T.l_choose.b .nil pass0 (pa_cons (pv 4) (pa_cons (pe_lst (pa_cons pe_int (pa_cons (pe_un un_neg pe_int) pa_nil))) pa_nil))) (pe_op op_add pe_int (pe_call (ok_l_draw T) (hr.mono (by decide)) (by rfl) T.l_draw.mgf T.l_draw.F.kp T.l_draw.b .nil pass0 (pa_cons (pv 4) (pa_cons (pe_call (ok_l_choose T) (hr.mono (by decide)) (by rfl) T.l_choose.mgf T.l_choose.F.kp T.l_choose.b .nil pass0 (pa_cons (pv 4) (pa_cons (pe_lst (pa_cons pe_int (pa_cons (pe_op op_pow pe_int pe_int) pa_nil))) pa_nil))) pa_nil))))))
      (pss_cons (ps_asg (pe_call (ok_divide T) (hr.mono (by decide)) (by rfl) T.divide.mgf T.divide.F.kp T.divide.b .nil pass0 (pa_cons (pv 6) (pa_cons (pv 7) (pa_cons (pv 8) pa_nil)))) (pg_tup rfl (pgs_cons (pg_name (i := 9) sc_law.nd rfl (Or.inl rfl)) (pgs_cons (pg_name (i := 10) sc_law.nd rfl (Or.inl rfl)) pgs_nil))))
      (pss_one (ps_if (PW.pt (pw_or (pt_cmpR (op_neD hr.units) (pe_tup (pa_cons (pv 9) (pa_cons (pv 10) pa_nil))) (pe_call (ok_l_divide T) (hr.mono (by decide)) (by rfl) T.l_divide.mgf T.l_divide.F.kp T.l_divide.b .nil pass0 (pa_cons (pv 6) (pa_cons (pv 7) (pa_cons (pv 8) pa_nil)))) (nomark _)) (pw_or (pt_cmpR op_ne (pv 7) (pe_op op_add (pe_op op_mul (pv 9) (pv 8)) (pv 10)) (nomark _)) (pw_or1 (pt_cmpR op_ge (pe_callB call_absA (by rfl) T.g_abs (by decide +kernel) (pa_cons (pv 10) pa_nil)) (pe_callB call_absA (by rfl) T.g_abs (by decide +kernel) (pa_cons (pv 8) pa_nil)) (nomark _)))))) (pss_one (ps_ret pe_bl)) pss_nil))))))
      (pss_cons (ps_set (i := 11) sc_law.nd rfl (Or.inl rfl) (pe_call (ok_l_choose T) (hr.mono (by decide)) (by rfl) T.l_choose.mgf T.l_choose.F.kp T.l_choose.b .nil pass0 (pa_cons (pv 4) (pa_cons (pe_lst (pa_cons pe_int (pa_cons pe_int (pa_cons pe_int (pa_cons (pe_call (ok_l_draw T) (hr.mono (by decide)) (by rfl) T.l_draw.mgf T.l_draw.F.kp T.l_draw.b .nil pass0 (pa_cons (pv 4) (pa_cons (pe_op op_pow pe_int pe_int) pa_nil))) pa_nil))))) pa_nil))))
      (pss_cons (ps_set (i := 8) sc_law.nd rfl (Or.inl rfl) (pe_op op_mul (pe_call (ok_l_choose T) (hr.mono (by decide)) (by rfl) T.l_choose.mgf T.l_choose.F.kp T.l_choose.b .nil pass0 (pa_cons (pv 4) (pa_cons (pe_lst (pa_cons pe_int (pa_cons (pe_un un_neg pe_int) pa_nil))) pa_nil))) (pe_op op_add pe_int (pe_call (ok_l_draw T) (hr.mono (by decide)) (by rfl) T.l_draw.mgf T.l_draw.F.kp T.l_draw.b .nil pass0 (pa_cons (pv 4) (pa_cons pe_int pa_nil))))))
      (pss_one (ps_for PassesOwn.never (by rfl) (pi_list (pv 1)) (pg_name (i := 6) sc_law.nd rfl (Or.inl rfl))
      (pss_one (ps_if (PW.pt (pw_or (pt_not (pt_val (pe_call (ok_l_carries_right T) (hr.mono (by decide)) (by rfl) T.l_carries_right.mgf T.l_carries_right.F.kp T.l_carries_right.b .nil pass0 (pa_cons (pv 6) (pa_cons pe_int (pa_cons (pv 8) (pa_cons (pv 11) pa_nil))))))) (pw_or1 (pt_not (pt_val (pe_call (ok_l_carries_right T) (hr.mono (by decide)) (by rfl) T.l_carries_right.mgf T.l_carries_right.F.kp T.l_carries_right.b .nil pass0 (pa_cons (pv 6) (pa_cons (pe_un un_neg pe_int) (pa_cons (pv 8) (pa_cons (pv 11) pa_nil)))))))))) (pss_one (ps_ret pe_bl)) pss_nil)))))))))
      (pss_one (ps_ret pe_bl))))))), ?_⟩
    refine ⟨(by show 5 ≤ sizeLine; decide), fun l hl => ?_⟩
    have s0 : Same H (upd H l (.lst ruleVs)) := same_new (Same.refl _) hl
    have hl0 : upd H l (.lst ruleVs) l = some (.lst ruleVs) := upd_same
    generalize upd H l (.lst ruleVs) = H0 at s0 hl0
    refine ⟨rfl, fun t H1 ht s1 h1 => ?_⟩
    refine ⟨_, rfl, .inl ⟨rfl, _, SqL.of h1⟩, t, _, rfl, rfl, h1, ?_⟩
    have s1' : Same H0 (upd H1 t (.lst [])) := same_mut s1 ht
    refine ⟨rfl, fun t2 H2 ht2 s2 h2 => ?_⟩
    have s2' : Same H0 H2 := s1'.trans s2
    refine ⟨_, rfl, _, _, dp_rules (SqL.of h2), dp_rules (SqL.of (s2' _ _ hl0)), (by decide +kernel), (by decide +kernel), _, rfl, ?_⟩
    refine iteBF (by rw [SeqAt.eqv_refl _ (by decide +kernel)]; rfl) ?_
    refine ⟨_, rfl, .down, -1, 10, 7, rfl, .inr rfl, by decide, by decide, by decide, by decide, fun t3 H3 ht3 s3 h3 => ?_⟩
    refine ⟨(by show 2 ≤ sizeLine; decide), fun t4 ht4 => ?_⟩
    refine ⟨.tuple [.int 1, .int 3], .tuple [.int 1, .int 3], .tup (SqT.of (by rw [upd_ne (ne_of_none h3 ht4)]; exact h3)) (.cons (.int _) (.cons (.int _) .nil)), .tup (SqT.of upd_same) (.cons (.int _) (.cons (.int _) .nil)), rfl, rfl, _, rfl, ?_⟩
    refine iteBF (by rw [SeqAt.eqv_refl _ rfl]; rfl) ?_
    have s4 : Same H0 (upd H3 t4 (.tup [.int 1, .int 3])) := same_new (s2'.trans s3) ht4
    generalize upd H3 t4 (.tup [.int 1, .int 3]) = H4 at s4
    have hS0 := s0.seq hS
    have la : l ≠ a ∨ True := .inr trivial
    refine ⟨_, rfl, a, _, rfl, .inl (s4.seq hS0), _, _, rfl, _, _, rfl, _, rfl, ?_⟩
    obtain ⟨m0, m1⟩ := max_min (n := ((ns.map V.int).length : Int)) (k := 12) (by omega) (by decide)
    refine ⟨by omega, by omega, for_range (lo := 0) (fun i σ H' => Same H0 H' ∧ ∃ v3 v4 v5 v6 v7 v8 v9 v10 v11, σ = [some (.ref a), some (.ref l), some (.ref t), v3, v4, v5, v6, v7, v8, v9, v10, v11]) ⟨s4, _, _, _, _, _, _, _, _, _, rfl⟩ ?_ ?_⟩
    · rintro i σ H' hi ⟨sm, v3, v4, v5, v6, v7, v8, v9, v10, v11, rfl⟩
      rw [Int.zero_add]
      have hi2 : i < 12 := by omega
      refine ⟨_, rfl, _, rfl, a, ns, i, rfl, sm.seq hS0, by omega, fun p H5 hp s5 P5 => ?_⟩
      have hp0 : H0 p = none := sm.free hp
      have s05 := sm.trans s5
      have lp : l ≠ p := ne_of_none hl0 hp0
      refine ⟨_, rfl, by decide, by decide, for_range (lo := 0) (n := 12) (fun j σ H' => Dr p H5 H' ∧ ∃ v5 v6 v7 v8 v9 v10 v11, σ = [some (.ref a), some (.ref l), some (.ref t), some (.int i), some (.ref p), v5, v6, v7, v8, v9, v10, v11]) ⟨Dr.refl P5, _, _, _, _, _, _, _, rfl⟩ ?_ ?_⟩
      · rintro j σ H6 hj ⟨D6, v5, v6, v7, v8, v9, v10, v11, rfl⟩
        have pick : ∀ {H7 : Hp}, Dr p H5 H7 → SqL K H7 l ruleVs := fun D => D.1.seq lp (SqL.of (s05 _ _ hl0))
        refine ⟨_, rfl, _, rfl, p, l, ruleVs, rfl, D6.2, pick D6, by simp, by simp, lp, fun v H7 hv D7 => ?_⟩
        obtain ⟨r, rfl⟩ := Rl.of_mem hv
        refine ⟨_, rfl, p, rfl, D7.2, fun x H8 x0 x1 D8 => ?_⟩
        refine ⟨_, _, rfl, ?_⟩
        have D58 := (D6.trans D7).trans D8
        refine ⟨_, rfl, _, rfl, (by show 2 ≤ sizeLine; decide), fun l2 hl2 => ?_⟩
        have D59 := D58.new (o := .lst [.int 1, .int (-1)]) hl2
        refine ⟨p, l2, _, rfl, D59.2, SqL.of upd_same, by simp, by simp, (D58.free hl2).1, fun v H9 hv D9 => ?_⟩
        obtain ⟨sg, rfl, hsg⟩ : ∃ sg : Int, v = .int sg ∧ (sg = 1 ∨ sg = -1) := by
          simp only [List.mem_cons, List.not_mem_nil, or_false] at hv
          rcases hv with rfl | rfl
          · exact ⟨1, rfl, .inl rfl⟩
          · exact ⟨-1, rfl, .inr rfl⟩
        have D510 := D59.trans D9
        refine ⟨_, rfl, _, rfl, ⟨_, _, rfl, rfl, ⟨by decide, by decide, by decide⟩, (by show 2 ≤ sizeLine; decide), fun l3 hl3 => ?_⟩⟩
        have D511 := D510.new (o := .lst [.int 12, .int (10 ^ Int.toNat 12)]) hl3
        refine ⟨p, l3, _, rfl, D511.2, SqL.of upd_same, by simp, by simp, (D510.free hl3).1, fun v H10 hv D10 => ?_⟩
        obtain ⟨mx, rfl, hm0, hm1⟩ : ∃ mx : Int, v = .int mx ∧ 0 < mx ∧ mx ≤ 1000000000000 := by
          simp only [List.mem_cons, List.not_mem_nil, or_false] at hv
          rcases hv with rfl | rfl
          · exact ⟨_, rfl, by decide, by decide⟩
          · exact ⟨_, rfl, by decide, by decide⟩
        have D512 := D511.trans D10
        refine ⟨p, mx, rfl, D512.2, hm0, by omega, fun d H11 d0 d1 D11 => ⟨_, _, rfl, rfl, _, _, rfl, rfl, .inl ⟨by omega, by omega⟩, ?_⟩⟩
        have D513 := D512.trans D11
        have hb0 : sg * (1 + d) ≠ 0 := by rcases hsg with h | h <;> subst h <;> omega
        have hb1 : ab (sg * (1 + d)) ≤ 1000000000000 := by unfold ab; rcases hsg with h | h <;> subst h <;> split <;> omega
        have hb2 : -1000000000000 ≤ sg * (1 + d) ∧ sg * (1 + d) ≤ 1000000000000 := by rcases hsg with h | h <;> subst h <;> omega
        have es := dvd_sum r x _ hb0
        have ea := dvd_abs r x _ hb0
        have el := dvd_ldv r x _ hb0
        refine ⟨_, rfl, _, rfl, _, rfl, r, x, _, rfl, hb0, by omega, fun t6 H12 ht6 s12 h12 => ?_⟩
        refine ⟨t6, _, rfl, SqT.of h12, rfl, _, _, rfl, _, _, rfl, rfl, ?_⟩
        refine ⟨_, rfl, _, rfl, (by show 2 ≤ sizeLine; decide), fun t7 ht7 => ?_⟩
        refine ⟨_, rfl, _, rfl, _, rfl, r, x, _, rfl, hb0, by omega, fun t8 H13 ht8 s13 h13 => ?_⟩
        rw [← el] at h13
        refine ⟨.tuple [.int _, .int _], .tuple [.int _, .int _], .tup (SqT.of (s13 _ _ upd_same)) (.cons (.int _) (.cons (.int _) .nil)), .tup (SqT.of h13) (.cons (.int _) (.cons (.int _) .nil)), rfl, rfl, _, rfl, ?_⟩
        refine iteBF (by rw [SeqAt.eqv_refl _ rfl]; rfl) ?_
        refine ⟨_, rfl, _, rfl, _, rfl, _, _, rfl, rfl, .inr ⟨by omega, by omega⟩, _, rfl, _, _, rfl, rfl, rfl, _, rfl, ?_⟩
        refine iteNS (congrArg V.int es) ?_
        refine ⟨_, rfl, _, rfl, _, rfl, _, rfl, _, _, rfl, rfl, _, rfl, ?_⟩
        refine iteDF (by omega) ?_
        have D514 : Dr p H5 H13 := ((D513.same s12).new ht7).same s13
        exact ⟨D514, _, _, _, _, _, _, _, rfl⟩
      · rintro σ H6 ⟨D6, v5, v6, v7, v8, v9, v10, v11, rfl⟩
        refine ⟨_, rfl, _, rfl, _, _, rfl, rfl, ⟨by decide, by decide, by decide⟩, p, _, rfl, D6.2, by decide, by decide, fun d H7 d0 d1 D7 => ⟨(by show 4 ≤ sizeLine; decide), fun l2 hl2 => ?_⟩⟩
        have D8 := (D6.trans D7).new (o := .lst [.int 0, .int 0, .int 1, .int d]) hl2
        refine ⟨p, l2, _, rfl, D8.2, SqL.of upd_same, by simp, by simp, ((D6.trans D7).free hl2).1, fun v H8 hv D9 => ?_⟩
        obtain ⟨m, rfl, hm⟩ : ∃ m : Int, v = .int m ∧ 0 ≤ m := by
          simp only [List.mem_cons, List.not_mem_nil, or_false] at hv
          rcases hv with rfl | rfl | rfl | rfl
          · exact ⟨_, rfl, by decide⟩
          · exact ⟨_, rfl, by decide⟩
          · exact ⟨_, rfl, by decide⟩
          · exact ⟨_, rfl, d0⟩
        have D10 := D8.trans D9
        refine ⟨_, rfl, _, rfl, (by show 2 ≤ sizeLine; decide), fun l3 hl3 => ?_⟩
        have D11 := D10.new (o := .lst [.int 1, .int (-1)]) hl3
        refine ⟨p, l3, _, rfl, D11.2, SqL.of upd_same, by simp, by simp, (D10.free hl3).1, fun v H9 hv D12 => ?_⟩
        obtain ⟨sg, rfl, hsg⟩ : ∃ sg : Int, v = .int sg ∧ (sg = 1 ∨ sg = -1) := by
          simp only [List.mem_cons, List.not_mem_nil, or_false] at hv
          rcases hv with rfl | rfl
          · exact ⟨1, rfl, .inl rfl⟩
          · exact ⟨-1, rfl, .inr rfl⟩
        refine ⟨_, rfl, p, _, rfl, D12.2, by decide, by decide, fun e H10 e0 e1 D13 => ⟨_, _, rfl, rfl, _, _, rfl, rfl, .inl ⟨by omega, by omega⟩, ?_⟩⟩
        have D14 := (D11.trans D12).trans D13
        have s14 := D14.keep s05 hp0
        have hb1 : 2 ≤ ab (sg * (2 + e)) ∧ ab (sg * (2 + e)) ≤ 10 := by unfold ab; rcases hsg with h | h <;> subst h <;> split <;> omega
        refine ⟨_, rfl, l, rfl, ⟨_, SqL.of (s14 _ _ hl0)⟩, for_list (K := K) (a := l) (xs := ruleVs) (fun j σ H' => Same H0 H' ∧ ∃ v5 v6 v7 v9 v10, σ = [some (.ref a), some (.ref l), some (.ref t), some (.int i), some (.ref p), v5, v6, v7, some (.int (sg * (2 + e))), v9, v10, some (.int m)]) ⟨s14, _, _, _, _, _, rfl⟩ (fun j σ H' _ ⟨sm, _⟩ => SqL.of (sm _ _ hl0)) ?_ ?_⟩
        · rintro j y σ H' hj ⟨sm, v5, v6, v7, v9, v10, rfl⟩
          obtain ⟨r, rfl⟩ := Rl.of_mem (List.mem_of_getElem? hj)
          refine ⟨_, rfl, _, rfl, _, rfl, r, 1, _, m, rfl, .inl rfl, hb1.1, hb1.2, hm, fun H2 s2 => ⟨_, rfl, iteF ?_⟩⟩
          refine ⟨_, rfl, _, rfl, _, rfl, _, rfl, r, -1, _, m, rfl, .inr rfl, hb1.1, hb1.2, hm, fun H3 s3 => ⟨_, rfl, iteF ?_⟩⟩
          exact ⟨(sm.trans s2).trans s3, _, _, _, _, _, rfl⟩
        · rintro σ H' ⟨sm, v5, v6, v7, v9, v10, rfl⟩
          exact ⟨sm, _, _, _, _, _, _, _, _, _, rfl⟩
    · rintro σ H' _
      exact k H'

end
theorem all_mk {l : PySem.W.OpenLaw} {w : World} {K : PySem.W.Frag} {h : Heap} {mg : Str → Option Value} {fa f0 f1 f2 f3 f4 f5 f6 f7 f8 f9 f10 f11 f12 f13 f14 f15 f16 f17 f18 f19 : Addr} (X : K.In h) (G : h.Ns mainGlobals mg) (hfa : mg "law" = some (.ref fa))
    {od0 an0 od1 an1 od2 an2 od3 an3 od4 an4 od5 an5 od6 an6 od7 an7 od8 an8 od9 an9 od10 an10 od11 an11 od12 an12 od13 an13 od14 an14 od15 an15 od16 an16 od17 an17 od18 an18 od19 an19 : Option Addr} {sl0 sl1 sl2 sl3 sl4 sl5 sl6 sl7 sl8 sl9 sl10 sl11 sl12 sl13 sl14 sl15 sl16 sl17 sl18 sl19 : Array (Option Value)} {oc0 kV0 dc0 pm0 cd0 ct0 oc1 kV1 dc1 pm1 cd1 ct1 oc2 kV2 dc2 pm2 cd2 ct2 oc3 kV3 dc3 pm3 cd3 ct3 oc4 kV4 dc4 pm4 cd4 ct4 oc5 kV5 dc5 pm5 cd5 ct5 oc6 kV6 dc6 pm6 cd6 ct6 oc7 kV7 dc7 pm7 cd7 ct7 oc8 kV8 dc8 pm8 cd8 ct8 oc9 kV9 dc9 pm9 cd9 ct9 oc10 kV10 dc10 pm10 cd10 ct10 oc11 kV11 dc11 pm11 cd11 ct11 oc12 kV12 dc12 pm12 cd12 ct12 oc13 kV13 dc13 pm13 cd13 ct13 oc14 kV14 dc14 pm14 cd14 ct14 oc15 kV15 dc15 pm15 cd15 ct15 oc16 kV16 dc16 pm16 cd16 ct16 oc17 kV17 dc17 pm17 cd17 ct17 oc18 kV18 dc18 pm18 cd18 ct18 oc19 kV19 dc19 pm19 cd19 ct19 : Value}
    {f_RULES : Addr} {o_RULES : Obj} {i_RULES : Array Value} {n_RULES : Nat}
    (a0 : PySem.W.nsIn K mainGlobals "is_integer" = some (some (.ref f0))) (l0 : K.lookup f0 = some ⟨oc0, od0, .func (PySem.W.fnOf "is_integer" "is_integer" (defArgs s_is_integer) (defBody s_is_integer) (defScope s_is_integer) .none kV0 dc0 pm0 an0 cd0 ct0), sl0⟩) (c0 : PySem.W.codeIn K cd0 "is_integer" = true) (k0 : PySem.W.keepIn K (.ref f0) = true)
    (a1 : PySem.W.nsIn K mainGlobals "is_between" = some (some (.ref f1))) (l1 : K.lookup f1 = some ⟨oc1, od1, .func (PySem.W.fnOf "is_between" "is_between" (defArgs s_is_between) (defBody s_is_between) (defScope s_is_between) .none kV1 dc1 pm1 an1 cd1 ct1), sl1⟩) (c1 : PySem.W.codeIn K cd1 "is_between" = true) (k1 : PySem.W.keepIn K (.ref f1) = true)
    (a2 : PySem.W.nsIn K mainGlobals "is_base" = some (some (.ref f2))) (l2 : K.lookup f2 = some ⟨oc2, od2, .func (PySem.W.fnOf "is_base" "is_base" (defArgs s_is_base) (defBody s_is_base) (defScope s_is_base) .none kV2 dc2 pm2 an2 cd2 ct2), sl2⟩) (c2 : PySem.W.codeIn K cd2 "is_base" = true) (k2 : PySem.W.keepIn K (.ref f2) = true)
    (a3 : PySem.W.nsIn K mainGlobals "is_sign" = some (some (.ref f3))) (l3 : K.lookup f3 = some ⟨oc3, od3, .func (PySem.W.fnOf "is_sign" "is_sign" (defArgs s_is_sign) (defBody s_is_sign) (defScope s_is_sign) .none kV3 dc3 pm3 an3 cd3 ct3), sl3⟩) (c3 : PySem.W.codeIn K cd3 "is_sign" = true) (k3 : PySem.W.keepIn K (.ref f3) = true)
    (a4 : PySem.W.nsIn K mainGlobals "sign_of" = some (some (.ref f4))) (l4 : K.lookup f4 = some ⟨oc4, od4, .func (PySem.W.fnOf "sign_of" "sign_of" (defArgs s_sign_of) (defBody s_sign_of) (defScope s_sign_of) .none kV4 dc4 pm4 an4 cd4 ct4), sl4⟩) (c4 : PySem.W.codeIn K cd4 "sign_of" = true) (k4 : PySem.W.keepIn K (.ref f4) = true)
    (a5 : PySem.W.nsIn K mainGlobals "rule_names" = some (some (.ref f5))) (l5 : K.lookup f5 = some ⟨oc5, od5, .func (PySem.W.fnOf "rule_names" "rule_names" (defArgs s_rule_names) (defBody s_rule_names) (defScope s_rule_names) .none kV5 dc5 pm5 an5 cd5 ct5), sl5⟩) (c5 : PySem.W.codeIn K cd5 "rule_names" = true) (k5 : PySem.W.keepIn K (.ref f5) = true)
    (a6 : PySem.W.nsIn K mainGlobals "is_rule" = some (some (.ref f6))) (l6 : K.lookup f6 = some ⟨oc6, od6, .func (PySem.W.fnOf "is_rule" "is_rule" (defArgs s_is_rule) (defBody s_is_rule) (defScope s_is_rule) .none kV6 dc6 pm6 an6 cd6 ct6), sl6⟩) (c6 : PySem.W.codeIn K cd6 "is_rule" = true) (k6 : PySem.W.keepIn K (.ref f6) = true)
    (a7 : PySem.W.nsIn K mainGlobals "require_rule" = some (some (.ref f7))) (l7 : K.lookup f7 = some ⟨oc7, od7, .func (PySem.W.fnOf "require_rule" "require_rule" (defArgs s_require_rule) (defBody s_require_rule) (defScope s_require_rule) .none kV7 dc7 pm7 an7 cd7 ct7), sl7⟩) (c7 : PySem.W.codeIn K cd7 "require_rule" = true) (k7 : PySem.W.keepIn K (.ref f7) = true)
    (a8 : PySem.W.nsIn K mainGlobals "is_greater" = some (some (.ref f8))) (l8 : K.lookup f8 = some ⟨oc8, od8, .func (PySem.W.fnOf "is_greater" "is_greater" (defArgs s_is_greater) (defBody s_is_greater) (defScope s_is_greater) .none kV8 dc8 pm8 an8 cd8 ct8), sl8⟩) (c8 : PySem.W.codeIn K cd8 "is_greater" = true) (k8 : PySem.W.keepIn K (.ref f8) = true)
    (a9 : PySem.W.nsIn K mainGlobals "divided" = some (some (.ref f9))) (l9 : K.lookup f9 = some ⟨oc9, od9, .func (PySem.W.fnOf "divided" "divided" (defArgs s_divided) (defBody s_divided) (defScope s_divided) .none kV9 dc9 pm9 an9 cd9 ct9), sl9⟩) (c9 : PySem.W.codeIn K cd9 "divided" = true) (k9 : PySem.W.keepIn K (.ref f9) = true)
    (a10 : PySem.W.nsIn K mainGlobals "divide" = some (some (.ref f10))) (l10 : K.lookup f10 = some ⟨oc10, od10, .func (PySem.W.fnOf "divide" "divide" (defArgs s_divide) (defBody s_divide) (defScope s_divide) .none kV10 dc10 pm10 an10 cd10 ct10), sl10⟩) (c10 : PySem.W.codeIn K cd10 "divide" = true) (k10 : PySem.W.keepIn K (.ref f10) = true)
    (a11 : PySem.W.nsIn K mainGlobals "carried" = some (some (.ref f11))) (l11 : K.lookup f11 = some ⟨oc11, od11, .func (PySem.W.fnOf "carried" "carried" (defArgs s_carried) (defBody s_carried) (defScope s_carried) .none kV11 dc11 pm11 an11 cd11 ct11), sl11⟩) (c11 : PySem.W.codeIn K cd11 "carried" = true) (k11 : PySem.W.keepIn K (.ref f11) = true)
    (a12 : PySem.W.nsIn K mainGlobals "carry" = some (some (.ref f12))) (l12 : K.lookup f12 = some ⟨oc12, od12, .func (PySem.W.fnOf "carry" "carry" (defArgs s_carry) (defBody s_carry) (defScope s_carry) .none kV12 dc12 pm12 an12 cd12 ct12), sl12⟩) (c12 : PySem.W.codeIn K cd12 "carry" = true) (k12 : PySem.W.keepIn K (.ref f12) = true)
    (a13 : PySem.W.nsIn K mainGlobals "_law_pool" = some (some (.ref f13))) (l13 : K.lookup f13 = some ⟨oc13, od13, .func (PySem.W.fnOf "_law_pool" "_law_pool" (defArgs s_l_pool) (defBody s_l_pool) (defScope s_l_pool) .none kV13 dc13 pm13 an13 cd13 ct13), sl13⟩) (c13 : PySem.W.codeIn K cd13 "_law_pool" = true) (k13 : PySem.W.keepIn K (.ref f13) = true)
    (a14 : PySem.W.nsIn K mainGlobals "_law_draw" = some (some (.ref f14))) (l14 : K.lookup f14 = some ⟨oc14, od14, .func (PySem.W.fnOf "_law_draw" "_law_draw" (defArgs s_l_draw) (defBody s_l_draw) (defScope s_l_draw) .none kV14 dc14 pm14 an14 cd14 ct14), sl14⟩) (c14 : PySem.W.codeIn K cd14 "_law_draw" = true) (k14 : PySem.W.keepIn K (.ref f14) = true)
    (a15 : PySem.W.nsIn K mainGlobals "_law_choose" = some (some (.ref f15))) (l15 : K.lookup f15 = some ⟨oc15, od15, .func (PySem.W.fnOf "_law_choose" "_law_choose" (defArgs s_l_choose) (defBody s_l_choose) (defScope s_l_choose) .none kV15 dc15 pm15 an15 cd15 ct15), sl15⟩) (c15 : PySem.W.codeIn K cd15 "_law_choose" = true) (k15 : PySem.W.keepIn K (.ref f15) = true)
    (a16 : PySem.W.nsIn K mainGlobals "_law_divide" = some (some (.ref f16))) (l16 : K.lookup f16 = some ⟨oc16, od16, .func (PySem.W.fnOf "_law_divide" "_law_divide" (defArgs s_l_divide) (defBody s_l_divide) (defScope s_l_divide) .none kV16 dc16 pm16 an16 cd16 ct16), sl16⟩) (c16 : PySem.W.codeIn K cd16 "_law_divide" = true) (k16 : PySem.W.keepIn K (.ref f16) = true)
    (a17 : PySem.W.nsIn K mainGlobals "_law_number" = some (some (.ref f17))) (l17 : K.lookup f17 = some ⟨oc17, od17, .func (PySem.W.fnOf "_law_number" "_law_number" (defArgs s_l_number) (defBody s_l_number) (defScope s_l_number) .none kV17 dc17 pm17 an17 cd17 ct17), sl17⟩) (c17 : PySem.W.codeIn K cd17 "_law_number" = true) (k17 : PySem.W.keepIn K (.ref f17) = true)
    (a18 : PySem.W.nsIn K mainGlobals "_law_carries_right" = some (some (.ref f18))) (l18 : K.lookup f18 = some ⟨oc18, od18, .func (PySem.W.fnOf "_law_carries_right" "_law_carries_right" (defArgs s_l_carries_right) (defBody s_l_carries_right) (defScope s_l_carries_right) .none kV18 dc18 pm18 an18 cd18 ct18), sl18⟩) (c18 : PySem.W.codeIn K cd18 "_law_carries_right" = true) (k18 : PySem.W.keepIn K (.ref f18) = true)
    (a19 : PySem.W.nsIn K mainGlobals "law" = some (some (.ref f19))) (l19 : K.lookup f19 = some ⟨oc19, od19, .func (PySem.W.fnOf "law" "law" (defArgs s_law) (defBody s_law) (defScope s_law) .none kV19 dc19 pm19 an19 cd19 ct19), sl19⟩) (c19 : PySem.W.codeIn K cd19 "law" = true) (k19 : PySem.W.keepIn K (.ref f19) = true)
    (z_len : PySem.W.nsIn K mainGlobals "len" = some none)
    (z_int : PySem.W.nsIn K mainGlobals "int" = some none)
    (z_range : PySem.W.nsIn K mainGlobals "range" = some none)
    (z_min : PySem.W.nsIn K mainGlobals "min" = some none)
    (z_max : PySem.W.nsIn K mainGlobals "max" = some none)
    (z_isinstance : PySem.W.nsIn K mainGlobals "isinstance" = some none)
    (z_bool : PySem.W.nsIn K mainGlobals "bool" = some none)
    (z_str : PySem.W.nsIn K mainGlobals "str" = some none)
    (z_abs : PySem.W.nsIn K mainGlobals "abs" = some none)
    (z_list : PySem.W.nsIn K mainGlobals "list" = some none)
    (z_divmod : PySem.W.nsIn K mainGlobals "divmod" = some none)
    (a_RULES : PySem.W.nsIn K mainGlobals "RULES" = some (some (.ref f_RULES))) (l_RULES : K.lookup f_RULES = some o_RULES) (x_RULES : o_RULES.cls = .type "tuple") (y_RULES : o_RULES.data = .seq i_RULES n_RULES) (z_RULES : i_RULES.size ≤ sizeLine) (v_RULES : i_RULES.toList.map absV = (ruleVs : List V).map some)
    : ∃ fd : FuncData, (∀ (s : Shared) (v : Value), BindsTo s fd ⟨[v], []⟩ [("_law_script", v)]) ∧ ∀ base : Heap, K.In base → base.Ns mainGlobals mg → FnOk l.prog w K mg base CX0 6 fa fd ["_law_script"] (spLaw K) := by
  have e := hfa.symm.trans (PySem.W.mg_of X G a19)
  cases e
  have F0 := fun_mk (st := s_is_integer) l0 c0 k0
  have b0 := F0.binds (ps := ["value"]) fun _ _ _ _ _ _ us hl => match us, hl with | [_], _ => rfl
  have F1 := fun_mk (st := s_is_between) l1 c1 k1
  have b1 := F1.binds (ps := ["value", "least", "greatest"]) fun _ _ _ _ _ _ us hl => match us, hl with | [_, _, _], _ => rfl
  have F2 := fun_mk (st := s_is_base) l2 c2 k2
  have b2 := F2.binds (ps := ["value"]) fun _ _ _ _ _ _ us hl => match us, hl with | [_], _ => rfl
  have F3 := fun_mk (st := s_is_sign) l3 c3 k3
  have b3 := F3.binds (ps := ["value"]) fun _ _ _ _ _ _ us hl => match us, hl with | [_], _ => rfl
  have F4 := fun_mk (st := s_sign_of) l4 c4 k4
  have b4 := F4.binds (ps := ["number"]) fun _ _ _ _ _ _ us hl => match us, hl with | [_], _ => rfl
  have F5 := fun_mk (st := s_rule_names) l5 c5 k5
  have b5 := F5.binds (ps := []) fun _ _ _ _ _ _ us hl => match us, hl with | [], _ => rfl
  have F6 := fun_mk (st := s_is_rule) l6 c6 k6
  have b6 := F6.binds (ps := ["value"]) fun _ _ _ _ _ _ us hl => match us, hl with | [_], _ => rfl
  have F7 := fun_mk (st := s_require_rule) l7 c7 k7
  have b7 := F7.binds (ps := ["value"]) fun _ _ _ _ _ _ us hl => match us, hl with | [_], _ => rfl
  have F8 := fun_mk (st := s_is_greater) l8 c8 k8
  have b8 := F8.binds (ps := ["rule", "sign", "divisor_sign", "part", "size"]) fun _ _ _ _ _ _ us hl => match us, hl with | [_, _, _, _, _], _ => rfl
  have F9 := fun_mk (st := s_divided) l9 c9 k9
  have b9 := F9.binds (ps := ["rule", "x", "divisor"]) fun _ _ _ _ _ _ us hl => match us, hl with | [_, _, _], _ => rfl
  have F10 := fun_mk (st := s_divide) l10 c10 k10
  have b10 := F10.binds (ps := ["rule", "x", "base"]) fun _ _ _ _ _ _ us hl => match us, hl with | [_, _, _], _ => rfl
  have F11 := fun_mk (st := s_carried) l11 c11 k11
  have b11 := F11.binds (ps := ["rule", "sign", "base", "figure"]) fun _ _ _ _ _ _ us hl => match us, hl with | [_, _, _, _], _ => rfl
  have F12 := fun_mk (st := s_carry) l12 c12 k12
  have b12 := F12.binds (ps := ["rule", "sign", "base", "figure"]) fun _ _ _ _ _ _ us hl => match us, hl with | [_, _, _, _], _ => rfl
  have F13 := fun_mk (st := s_l_pool) l13 c13 k13
  have b13 := F13.binds (ps := ["_law_script", "_law_k"]) fun _ _ _ _ _ _ us hl => match us, hl with | [_, _], _ => rfl
  have F14 := fun_mk (st := s_l_draw) l14 c14 k14
  have b14 := F14.binds (ps := ["_law_pool_here", "_law_many"]) fun _ _ _ _ _ _ us hl => match us, hl with | [_, _], _ => rfl
  have F15 := fun_mk (st := s_l_choose) l15 c15 k15
  have b15 := F15.binds (ps := ["_law_pool_here", "_law_items"]) fun _ _ _ _ _ _ us hl => match us, hl with | [_, _], _ => rfl
  have F16 := fun_mk (st := s_l_divide) l16 c16 k16
  have b16 := F16.binds (ps := ["_law_rule", "_law_x", "_law_base"]) fun _ _ _ _ _ _ us hl => match us, hl with | [_, _, _], _ => rfl
  have F17 := fun_mk (st := s_l_number) l17 c17 k17
  have b17 := F17.binds (ps := ["_law_pool_here"]) fun _ _ _ _ _ _ us hl => match us, hl with | [_], _ => rfl
  have F18 := fun_mk (st := s_l_carries_right) l18 c18 k18
  have b18 := F18.binds (ps := ["_law_rule", "_law_sign", "_law_base", "_law_high"]) fun _ _ _ _ _ _ us hl => match us, hl with | [_, _, _, _], _ => rfl
  have F19 := fun_mk (st := s_law) l19 c19 k19
  have T : Txt K mg := ⟨f0, _, ⟨F0, PySem.W.mg_of X G a0, b0⟩, f1, _, ⟨F1, PySem.W.mg_of X G a1, b1⟩, f2, _, ⟨F2, PySem.W.mg_of X G a2, b2⟩, f3, _, ⟨F3, PySem.W.mg_of X G a3, b3⟩, f4, _, ⟨F4, PySem.W.mg_of X G a4, b4⟩, f5, _, ⟨F5, PySem.W.mg_of X G a5, b5⟩, f6, _, ⟨F6, PySem.W.mg_of X G a6, b6⟩, f7, _, ⟨F7, PySem.W.mg_of X G a7, b7⟩, f8, _, ⟨F8, PySem.W.mg_of X G a8, b8⟩, f9, _, ⟨F9, PySem.W.mg_of X G a9, b9⟩, f10, _, ⟨F10, PySem.W.mg_of X G a10, b10⟩, f11, _, ⟨F11, PySem.W.mg_of X G a11, b11⟩, f12, _, ⟨F12, PySem.W.mg_of X G a12, b12⟩, f13, _, ⟨F13, PySem.W.mg_of X G a13, b13⟩, f14, _, ⟨F14, PySem.W.mg_of X G a14, b14⟩, f15, _, ⟨F15, PySem.W.mg_of X G a15, b15⟩, f16, _, ⟨F16, PySem.W.mg_of X G a16, b16⟩, f17, _, ⟨F17, PySem.W.mg_of X G a17, b17⟩, f18, _, ⟨F18, PySem.W.mg_of X G a18, b18⟩, PySem.W.mg_none_of X G z_len, PySem.W.mg_none_of X G z_int, PySem.W.mg_none_of X G z_range, PySem.W.mg_none_of X G z_min, PySem.W.mg_none_of X G z_max, PySem.W.mg_none_of X G z_isinstance, PySem.W.mg_none_of X G z_bool, PySem.W.mg_none_of X G z_str, PySem.W.mg_none_of X G z_abs, PySem.W.mg_none_of X G z_list, PySem.W.mg_none_of X G z_divmod, f_RULES, PySem.W.mg_of X G a_RULES, fun _ => .inr ⟨o_RULES, i_RULES, n_RULES, l_RULES, x_RULES, y_RULES, z_RULES, vals_abs v_RULES⟩⟩
  exact ⟨PySem.W.fnOf "law" "law" (defArgs s_law) (defBody s_law) (defScope s_law) .none kV19 dc19 pm19 an19 cd19 ct19, fun s v => .of_eq rfl, fun base _ _ => ok_law F19 T⟩
theorem walk {l : PySem.W.OpenLaw} {q : Program} {loose : List Str} {XP : (Str → Option Value) → Heap → Prop} {YP : World → Heap → Prop} {d : DefRec} {K : Params → PySem.W.Frag} (hn : l.most = some 63) (hdf : d.params.defaults = [])
    (hY : ∀ (w : World) (h : Heap), YP w h → (K w.params).In h)
    (F : ∀ (w : World) (mg : Str → Option Value) (fa : Addr) (h : Heap), (K w.params).In h → h.Ns mainGlobals mg → mg d.name = some (.ref fa) →
      ∃ fd : FuncData, (∀ (s : Shared) (u : Value), BindsTo s fd ⟨[u], []⟩ [("_law_script", u)]) ∧ ∀ base : Heap, (K w.params).In base → base.Ns mainGlobals mg → FnOk l.prog w (K w.params) mg base CX0 6 fa fd ["_law_script"] (spLaw (K w.params))) :
    PySem.W.WalkO q loose XP YP l.row.toRowW d [] (fun f vs => PySem.call f vs) :=
  L2.walk_ofB (n := 63) (k := 6) (x := "_law_script") (CX := fun _ => CX0) (sp := fun w => spLaw (K w.params)) hn (by decide) hdf ⟨rfl, by decide, by decide⟩ hY F (fun _ _ a ns hl hb _ hS => ⟨a, ns, rfl, hS, hl, fun _ => rfl⟩) fun _ _ _ _ _ z => z
end My
open PySem PySem.W PyProof.Rows
set_option maxRecDepth 100000 in
set_option maxHeartbeats 0 in
theorem PySem.Challenge.cw_twodivisions_k01_five_rules_of_division_holds : PySem.Challenge.rw_twodivisions_k01_five_rules_of_division.Holds := by
  w_on; o_law; k_head; (case hw => w_witness2)
  k_fill
  refine My.walk (l := PySem.Challenge.rw_twodivisions_k01_five_rules_of_division) rfl rfl (fun w h Y => PySem.W.kIn_of Y) ?F
  case F =>
    intro w mg fa h KX G hmg
    refine' My.all_mk KX G hmg ?a0 ?l0 ?c0 ?k0 ?a1 ?l1 ?c1 ?k1 ?a2 ?l2 ?c2 ?k2 ?a3 ?l3 ?c3 ?k3 ?a4 ?l4 ?c4 ?k4 ?a5 ?l5 ?c5 ?k5 ?a6 ?l6 ?c6 ?k6 ?a7 ?l7 ?c7 ?k7 ?a8 ?l8 ?c8 ?k8 ?a9 ?l9 ?c9 ?k9 ?a10 ?l10 ?c10 ?k10 ?a11 ?l11 ?c11 ?k11 ?a12 ?l12 ?c12 ?k12 ?a13 ?l13 ?c13 ?k13 ?a14 ?l14 ?c14 ?k14 ?a15 ?l15 ?c15 ?k15 ?a16 ?l16 ?c16 ?k16 ?a17 ?l17 ?c17 ?k17 ?a18 ?l18 ?c18 ?k18 ?a19 ?l19 ?c19 ?k19 ?z_len ?z_int ?z_range ?z_min ?z_max ?z_isinstance ?z_bool ?z_str ?z_abs ?z_list ?z_divmod ?a_RULES ?l_RULES ?x_RULES ?y_RULES ?z_RULES ?v_RULES
    (case a0 => k_is)
    (case l0 => k_is)
    (case c0 => k_is)
    (case k0 => k_is)
    (case a1 => k_is)
    (case l1 => k_is)
    (case c1 => k_is)
    (case k1 => k_is)
    (case a2 => k_is)
    (case l2 => k_is)
    (case c2 => k_is)
    (case k2 => k_is)
    (case a3 => k_is)
    (case l3 => k_is)
    (case c3 => k_is)
    (case k3 => k_is)
    (case a4 => k_is)
    (case l4 => k_is)
    (case c4 => k_is)
    (case k4 => k_is)
    (case a5 => k_is)
    (case l5 => k_is)
    (case c5 => k_is)
    (case k5 => k_is)
    (case a6 => k_is)
    (case l6 => k_is)
    (case c6 => k_is)
    (case k6 => k_is)
    (case a7 => k_is)
    (case l7 => k_is)
    (case c7 => k_is)
    (case k7 => k_is)
    (case a8 => k_is)
    (case l8 => k_is)
    (case c8 => k_is)
    (case k8 => k_is)
    (case a9 => k_is)
    (case l9 => k_is)
    (case c9 => k_is)
    (case k9 => k_is)
    (case a10 => k_is)
    (case l10 => k_is)
    (case c10 => k_is)
    (case k10 => k_is)
    (case a11 => k_is)
    (case l11 => k_is)
    (case c11 => k_is)
    (case k11 => k_is)
    (case a12 => k_is)
    (case l12 => k_is)
    (case c12 => k_is)
    (case k12 => k_is)
    (case a13 => k_is)
    (case l13 => k_is)
    (case c13 => k_is)
    (case k13 => k_is)
    (case a14 => k_is)
    (case l14 => k_is)
    (case c14 => k_is)
    (case k14 => k_is)
    (case a15 => k_is)
    (case l15 => k_is)
    (case c15 => k_is)
    (case k15 => k_is)
    (case a16 => k_is)
    (case l16 => k_is)
    (case c16 => k_is)
    (case k16 => k_is)
    (case a17 => k_is)
    (case l17 => k_is)
    (case c17 => k_is)
    (case k17 => k_is)
    (case a18 => k_is)
    (case l18 => k_is)
    (case c18 => k_is)
    (case k18 => k_is)
    (case a19 => k_is)
    (case l19 => k_is)
    (case c19 => k_is)
    (case k19 => k_is)
    (case z_len => k_is)
    (case z_int => k_is)
    (case z_range => k_is)
    (case z_min => k_is)
    (case z_max => k_is)
    (case z_isinstance => k_is)
    (case z_bool => k_is)
    (case z_str => k_is)
    (case z_abs => k_is)
    (case z_list => k_is)
    (case z_divmod => k_is)
    (case a_RULES => k_is)
    (case l_RULES => k_is)
    (case x_RULES => rfl)
    (case y_RULES => rfl)
    (case z_RULES => decide +kernel)
    (case v_RULES => rfl)
