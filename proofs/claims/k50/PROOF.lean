import PyProof.Rows.All
import Wide.All
import OpenK.AllK
import Wide.FinOn
import HandS.ForMost
import HandS.ForExc
import HandS.Wide
import HandS.WideBits
import HandS.EndBits
import HandS.IsInst
import HandS.Walk
import HandS.ExcInit
import HandS.ExcField
import HandS.ExcIs
import HandS.Style
import PySem.Challenge.RW_twodivisions_k50_determinants
set_option Elab.async false
set_option maxRecDepth 100000
set_option maxHeartbeats 4000000
set_option linter.all false
namespace My
open PySem L2
/-! rules and relations that all the laws share -/
section
variable {X : Cx}
theorem mulOk_small {x : Str} {n : Int} (h0 : -(2 ^ 62) ≤ n) (h1 : n < 2 ^ 20) (hx : x.length ≤ 16) : MulOk x n := by
  refine ⟨?_, fun h2 _ => ?_, fun h2 _ => ?_⟩
  · rw [decide_eq_false (by omega), decide_eq_false (by omega)]
    rfl
  · have e : (2 ^ 63 - 1 : Int) / n ≥ 16 := by
      rw [ge_iff_le, Int.le_ediv_iff_mul_le (by omega)]
      omega
    omega
  · unfold Builtin.Str.tooLong
    rw [sizeLine_eq]
    refine decide_eq_false ?_
    have e : x.length * n.toNat ≤ 16 * n.toNat := Nat.mul_le_mul_right _ hx
    omega
/-- text * int -/
def rRepS : R2 := fun x y H Q => ∃ (z : Str) (n : Int), x = .str z ∧ y = .int n ∧ -(2 ^ 62) ≤ n ∧ n < 2 ^ 20 ∧ z.length ≤ 16 ∧ Q (.str (Txt.mul z n)) H
theorem op_repS : OpR X (binaryOp .Mult) rRepS := by
  intro pins s σ H x y u v Q I rx ry h
  obtain ⟨z, n, rfl, rfl, h0, h1, h2, q⟩ := h
  obtain ⟨t, rfl⟩ := rx
  obtain ⟨t', rfl⟩ := ry
  exact SB.mul (mulOk_small h0 h1 h2) fun t'' k => ⟨.str _, H, I.tok k, ⟨t'', rfl⟩, q⟩
end
/-- the turns of a text -/
theorem for_its {x : Str} {g : TG} {tb : TS} {D : Ends} {σ : L2.St} {H : Hp} (Pv : Nat → L2.St → Hp → Prop) (h0 : Pv 0 σ H)
    (hs : ∀ i c σ H, x.cps.toList[i]? = some c → Pv i σ H → g (.str ⟨#[c]⟩) σ H fun σ2 H2 => tb { D with nx := Pv (i + 1), ct := Pv (i + 1), bk := D.nx } σ2 H2) (hd : ∀ σ H, Pv x.cps.toList.length σ H → D.nx σ H) :
    ∃ W : Nat → Nat → L2.St → Hp → Prop, (∃ m, W 0 m σ H) ∧ ∀ i m σ H, W i m σ H →
      ((Its x).stop i H ∧ D.nx σ H) ∨ ((Its x).go i H ∧ ∃ N : L2.St → Hp → Prop, (∀ σ' H', N σ' H' → ∃ m', m' < m ∧ W (i + 1) m' σ' H') ∧ ∀ y H', (Its x).yld i H y H' → g y σ H' fun σ2 H2 => tb { D with nx := N, ct := N, bk := D.nx } σ2 H2) := by
  have en : x.cps.toList.length = x.cps.size := Array.length_toList
  refine ⟨fun i m σ H => m = x.cps.size - i ∧ i ≤ x.cps.size ∧ Pv i σ H, ⟨_, rfl, Nat.zero_le _, h0⟩, ?_⟩
  rintro i m σ H ⟨rfl, hi, p⟩
  by_cases hlt : i < x.cps.size
  · refine .inr ⟨hlt, Pv (i + 1), fun σ' H' p' => ⟨x.cps.size - (i + 1), by omega, rfl, hlt, p'⟩, fun y H' hy => ?_⟩
    obtain ⟨e, c, hc, ey⟩ := hy
    subst e ey
    exact hs i c σ _ (by rw [Array.getElem?_toList]; exact hc) p
  · have e : i = x.cps.size := by omega
    refine .inl ⟨by show x.cps.size ≤ i; omega, hd σ H ?_⟩
    rw [en, ← e]
    exact p
/-- what stands elsewhere than at p is as it was -/
def Kp (p : Addr) (H H' : Hp) : Prop := ∀ b o, b ≠ p → H b = some o → H' b = some o
theorem Kp.refl {p : Addr} {H : Hp} : Kp p H H := fun _ _ _ h => h
theorem Kp.trans {p : Addr} {H H1 H2 : Hp} (a : Kp p H H1) (b : Kp p H1 H2) : Kp p H H2 := fun c o n h => b c o n (a c o n h)
theorem Kp.put {p : Addr} {H H1 : Hp} {o : HO} (a : Kp p H H1) : Kp p H (upd H1 p o) := fun c u n h => by
  rw [upd_ne n]
  exact a c u n h
theorem Kp.new {p q : Addr} {H H1 : Hp} {o : HO} (a : Kp p H H1) (hq : H1 q = none) : Kp p H (upd H1 q o) := fun c u n h => by
  rw [upd_ne (ne_of_none (a c u n h) hq)]
  exact a c u n h
theorem Kp.seq {p : Addr} {K : PySem.W.Frag} {H H' : Hp} {a : Addr} {xs : List V} (e : Kp p H H') (n : a ≠ p) (h : SqL K H a xs) : SqL K H' a xs := by
  rcases h with (h | ⟨o, h⟩) | h
  · exact .inl (.inl (e _ _ n h))
  · exact .inl (.inr ⟨o, e _ _ n h⟩)
  · exact .inr h
theorem Kp.of_same {p : Addr} {H H' : Hp} (h : Same H H') : Kp p H H' := fun b o _ e => h b o e
/-- a pool of draws stands at p -/
def Pool (H : Hp) (p : Addr) : Prop := ∃ c s : Int, H p = some (.lst [.int c, .int s]) ∧ 0 ≤ s ∧ s < 2147483647
theorem Pool.new {H : Hp} {p q : Addr} {o : HO} (h : Pool H p) (hq : H q = none) : Pool (upd H q o) p := by
  obtain ⟨c, s, e, r⟩ := h
  exact ⟨c, s, by rw [upd_ne (ne_of_none e hq)]; exact e, r⟩
theorem Pool.same {H H' : Hp} {p : Addr} (h : Pool H p) (e : Same H H') : Pool H' p := by
  obtain ⟨c, s, z, r⟩ := h
  exact ⟨c, s, e _ _ z, r⟩
theorem Pool.put {H : Hp} {p : Addr} {c s : Int} (h0 : 0 ≤ s) (h1 : s < 2147483647) : Pool (upd H p (.lst [.int c, .int s])) p := ⟨c, s, upd_same, h0, h1⟩
theorem Pool.putM {H : Hp} {p : Addr} {c s : Int} : Pool (upd H p (.lst [.int c, .int (s % 2147483647)])) p := Pool.put (Int.emod_nonneg _ (by decide)) (Int.emod_lt_of_pos _ (by decide))
/-- behind draws: the pool at p, all else as it was -/
def Dr (p : Addr) (H H' : Hp) : Prop := Kp p H H' ∧ Pool H' p
theorem Dr.refl {p : Addr} {H : Hp} (h : Pool H p) : Dr p H H := ⟨Kp.refl, h⟩
theorem Dr.trans {p : Addr} {H H1 H2 : Hp} (a : Dr p H H1) (b : Dr p H1 H2) : Dr p H H2 := ⟨a.1.trans b.1, b.2⟩
theorem Dr.new {p q : Addr} {H H1 : Hp} {o : HO} (a : Dr p H H1) (hq : H1 q = none) : Dr p H (upd H1 q o) := ⟨a.1.new hq, a.2.new hq⟩
theorem Dr.same {p : Addr} {H H1 H2 : Hp} (a : Dr p H H1) (s : Same H1 H2) : Dr p H H2 := ⟨a.1.trans (Kp.of_same s), a.2.same s⟩
theorem Dr.free {p q : Addr} {H H1 : Hp} (a : Dr p H H1) (h : H1 q = none) : q ≠ p ∧ H q = none := by
  obtain ⟨k, c, s, e, _⟩ := a
  have n : q ≠ p := (ne_of_none e h).symm
  refine ⟨n, ?_⟩
  cases z : H q with
  | none => rfl
  | some o =>
    rw [k _ _ n z] at h
    cases h
/-- what H doesn't know may change -/
theorem Dr.mut {p q : Addr} {H H1 : Hp} {o : HO} (a : Dr p H H1) (n : q ≠ p ∧ H q = none) : Dr p H (upd H1 q o) := by
  obtain ⟨k, c, s, e, r⟩ := a
  refine ⟨fun b u nb hb => ?_, c, s, ?_, r⟩
  · rw [upd_ne (ne_of_none hb n.2)]
    exact k b u nb hb
  · rw [upd_ne n.1.symm]
    exact e
/-- the promise of a draw -/
def spDraw : Sp := fun vs H Q _ => ∃ (p : Addr) (m : Int), vs = [.ref p, .int m] ∧ Pool H p ∧ 0 < m ∧ m < 2 ^ 100 ∧ ∀ (d : Int) (H' : Hp), 0 ≤ d → d < m → Dr p H H' → Q (.int d) H'
def spPool (K : PySem.W.Frag) : Sp := fun vs H Q _ => ∃ (a : Addr) (ns : List Int) (k : Nat), vs = [.ref a, .int (k : Int)] ∧ SqL K H a (ns.map V.int) ∧ k < 64 ∧
  ∀ (p : Addr) (H' : Hp), H p = none → Same H H' → Pool H' p → Q (.ref p) H'
theorem atI_map {ns : List Int} {k : Nat} (h : k < ns.length) : atI (ns.map V.int) (k : Int) = some (.int (ns.getD k 0)) := by
  refine atI_nat ?_
  rw [List.getElem?_map, List.getElem?_eq_getElem h, List.getD_eq_getElem?_getD, List.getElem?_eq_getElem h]
  rfl
theorem rel_abs {u : Value} {x : V} (h : absV u = some x) : RelV x u := by
  cases u <;> simp only [absV, Option.some.injEq, reduceCtorEq] at h <;> subst h <;> first | rfl | exact ⟨_, rfl⟩
theorem vals_abs : ∀ {us : List Value} {xs : List V}, us.map absV = xs.map some → Vals xs us
  | [], [], _ => .nil
  | [], _ :: _, h => by simp at h
  | _ :: _, [], h => by simp at h
  | u :: us, x :: xs, h => by
    simp only [List.map_cons, List.cons.injEq] at h
    exact .cons (rel_abs h.1) (vals_abs h.2)
local macro_rules | `(tactic| walk_at "side") => `(tactic| first | assumption | omega | decide | (show (0 : Int) < _; decide))
local macro_rules | `(tactic| walk_at "rd") => `(tactic| repeat (first
  | refine ⟨_, rfl, ?_⟩
  | refine ⟨_, _, rfl, rfl, ?_⟩
  | refine ⟨_, _, rfl, ?_⟩
  | refine ⟨rfl, ?_⟩))
/-- the promise of a choice -/
def spChoose (K : PySem.W.Frag) : Sp := fun vs H Q _ => ∃ (p l : Addr) (ys : List V), vs = [.ref p, .ref l] ∧ Pool H p ∧ SqL K H l ys ∧ ys ≠ [] ∧ ys.length ≤ 1000 ∧ l ≠ p ∧ ∀ (v : V) (H' : Hp), v ∈ ys → Dr p H H' → Q v H'
theorem atI_some {ys : List V} {d : Int} (h0 : 0 ≤ d) (h1 : d < (ys.length : Int)) : ∃ v ∈ ys, atI ys d = some v := by
  have hd : d.toNat < ys.length := by omega
  refine ⟨ys[d.toNat], List.getElem_mem hd, ?_⟩
  have h := atI_nat (List.getElem?_eq_getElem hd)
  rw [Int.toNat_of_nonneg h0] at h
  exact h
theorem iteDT {c A B : Prop} [Decidable c] (h : c) (a : A) : if decide c = true then A else B := by rw [if_pos (decide_eq_true h)]; exact a
theorem iteDF {c A B : Prop} [Decidable c] (h : ¬ c) (b : B) : if decide c = true then A else B := by rw [if_neg (fun z => h (of_decide_eq_true z))]; exact b
theorem iteND {c A B : Prop} [Decidable c] (h : ¬ c) (a : A) : if (!decide c) = true then A else B := by rw [if_pos (by rw [decide_eq_false h]; rfl)]; exact a
theorem iteB {c : Bool} {A B : Prop} (h1 : c = true → A) (h2 : c = false → B) : if c = true then A else B := by
  cases c with
  | true => rw [if_pos rfl]; exact h1 rfl
  | false => rw [if_neg Bool.false_ne_true]; exact h2 rfl
theorem iteBF {c : Bool} {A B : Prop} (h : c = false) (b : B) : if c = true then A else B := by rw [h, if_neg Bool.false_ne_true]; exact b
theorem iteBT {c : Bool} {A B : Prop} (h : c = true) (a : A) : if c = true then A else B := by rw [h, if_pos rfl]; exact a
/-- a and b, as a value -/
theorem ite_and {c d : Bool} {R : Prop} {Q : VK} {H : Hp} (hR : c = true → Q (.bl d) H → R) (q : Q (.bl (c && d)) H) : if c = true then R else Q (.bl false) H := by
  cases c with
  | true => rw [if_pos rfl]; exact hR rfl q
  | false => rw [if_neg Bool.false_ne_true]; exact q
theorem ite_or {c d : Bool} {R : Prop} {Q : VK} {H : Hp} (hR : c = false → Q (.bl d) H → R) (q : Q (.bl (c || d)) H) : if c = true then Q (.bl true) H else R := by
  cases c with
  | true => rw [if_pos rfl]; exact q
  | false => rw [if_neg Bool.false_ne_true]; exact hR rfl q
theorem dec_int {i j : Int} : decide (V.int i = V.int j) = decide (i = j) := decide_eq_decide.mpr ⟨fun e => V.int.inj e, fun e => by rw [e]⟩
theorem dec_str {i j : Str} : decide (V.str i = V.str j) = decide (i = j) := decide_eq_decide.mpr ⟨fun e => V.str.inj e, fun e => by rw [e]⟩
theorem Dr.keep {p : Addr} {H0 H1 H2 : Hp} (a : Dr p H1 H2) (s : Same H0 H1) (hp : H0 p = none) : Same H0 H2 := fun b o hb => a.1 b o (ne_of_none hb hp) (s b o hb)
theorem same_new {H0 H1 : Hp} {q : Addr} {o : HO} (s : Same H0 H1) (hq : H1 q = none) : Same H0 (upd H1 q o) := fun b u hb => by
  rw [upd_ne (ne_of_none (s b u hb) hq)]
  exact s b u hb
theorem same_mut {H0 H1 : Hp} {q : Addr} {o : HO} (s : Same H0 H1) (hq : H0 q = none) : Same H0 (upd H1 q o) := fun b u hb => by
  rw [upd_ne (ne_of_none hb hq)]
  exact s b u hb
theorem max_min {n k : Int} (h0 : 0 ≤ n) (hk : 1 ≤ k) : 0 ≤ (if (if k < n then k else n) > 1 then (if k < n then k else n) else 1) ∧ (if (if k < n then k else n) > 1 then (if k < n then k else n) else 1) ≤ k := by
  split <;> split at * <;> omega
theorem get_int {ns : List Int} {i : Nat} {x : V} (h : (ns.map V.int)[i]? = some x) : ∃ u, ns[i]? = some u ∧ x = .int u := by
  rw [List.getElem?_map] at h
  cases e : ns[i]? with
  | none => rw [e] at h; cases h
  | some u => rw [e] at h; exact ⟨u, rfl, (Option.some.inj h).symm⟩
theorem get_ref {ps : List Addr} {i : Nat} {x : V} (h : (ps.map V.ref)[i]? = some x) : ∃ u, ps[i]? = some u ∧ x = .ref u := by
  rw [List.getElem?_map] at h
  cases e : ps[i]? with
  | none => rw [e] at h; cases h
  | some u => rw [e] at h; exact ⟨u, rfl, (Option.some.inj h).symm⟩

/-! own errors over ValueError with one field -/
structure Exc1 (K : PySem.W.Frag) (mg : Str → Option Value) (x qual : Str) (st : Stmt) (fld : Str) (ps : List Str) (C fI : Addr) (fd : FuncData) : Prop where
  mgC : mg x = some (.ref C)
  oex : OexC K C
  iC : PySem.W.findIn K (.ref C) "__init__" = some (some (.ref fI))
  tI : PySem.W.typeIn K (.ref fI) = some (.type "function")
  F : Fun K "__init__" qual st fI fd
  b : Binds K fd ps []
  nf : PySem.W.findIn K (.ref C) fld = some none
  xf : XfC K C
  te : PySem.W.exmOne K (.ref C) (.ref C) = some true
theorem exc1_mk {K : PySem.W.Frag} {h : Heap} {mg : Str → Option Value} {x qual fld : Str} {st : Stmt} {ps : List Str} {C f : Addr} (X : K.In h) (G : h.Ns mainGlobals mg) {od an : Option Addr} {sl : Array (Option Value)} {oc kV dc pm cd ct : Value}
    {nm q N bs sn sub ab col dd m0 m1 m2 m3 m5} (aC : PySem.W.nsIn K mainGlobals x = some (some (.ref C)))
    (xL : K.lookup C = some (excClassObj nm q C N bs [.type "ValueError", .type "Exception", .type "BaseException", .type "object"] true sn sub ab col dd m0 m1 m2 m3 m5 "ValueError.__new__"))
    (sa : PySem.W.findIn K (.ref C) "__setattr__" = some (some (.builtin "object.__setattr__"))) (ga : PySem.W.findIn K (.ref C) "__getattribute__" = some (some (.builtin "BaseException.__getattribute__"))) (gg : PySem.W.findIn K (.ref C) "__getattr__" = some none) (nb : PySem.W.findIn K (.ref C) fld = some none)
    (a1 : PySem.W.findIn K (.ref C) "__init__" = some (some (.ref f))) (t1 : PySem.W.typeIn K (.ref f) = some (.type "function"))
    (l1 : K.lookup f = some ⟨oc, od, .func (PySem.W.fnOf "__init__" qual (defArgs st) (defBody st) (defScope st) .none kV dc pm an cd ct), sl⟩) (c1 : PySem.W.codeIn K cd qual = true) (k1 : PySem.W.keepIn K (.ref f) = true)
    (kC : PySem.W.keepIn K (.ref C) = true) (eC : PySem.W.subIn K (.ref C) (.type "BaseException") = some true) (tC : PySem.W.typeIn K (.ref C) = some (.type "type")) (hC : PySem.W.hasDictIn K C = true) (iC : PySem.W.isClsIn K C = true) (sC : PySem.W.subIn K (.ref C) (.ref C) = some true)
    (b : ∀ (kV doc pm : Value) (an : Option Addr) (cdv ct : Value) (us : List Value), us.length = ps.length → bindArgs (PySem.W.fnOf "__init__" qual (defArgs st) (defBody st) (defScope st) .none kV doc pm an cdv ct) ⟨us, []⟩ = pure (ps.zip us)) :
    ∃ (C f : Addr) (fd : FuncData), Exc1 K mg x qual st fld ps C f fd :=
  ⟨C, f, _, PySem.W.mg_of X G aC, ⟨⟨nm, q, N, bs, _, sn, sub, ab, col, dd, m0, m1, m2, m3, m5, xL, by decide +kernel⟩, sa, eC, tC, kC⟩, a1, t1, fun_mk (st := st) l1 c1 k1, (fun_mk (st := st) l1 c1 k1).binds b, nb, ⟨ga, gg, eC, hC⟩, PySem.W.exm_ref eC hC tC sC⟩
/-- what __init__ promises -/
def spExc (fld : Str) (C : Addr) : Sp := fun vs H Q _ => ∃ (a : Addr) (v : V), vs = [.ref a, v] ∧ H a = some (exo a C none) ∧ ∀ dx, H dx = none → dx ≠ a → Q .non (upd (upd H dx (exd dx [(fld, v)])) a (exo a C (some dx)))
/-- what is left of a made one: its dict -/
theorem mk_exc {C : Addr} {fld : Str} {v : V} {H1 : Hp} {Q : XK} (q : ∀ d H', H1 d = none → Same H1 H' → H' d = some (.xd [(fld, v)]) → Q (.ref C) (some d) H') :
    [v].length ≤ 1000 ∧ ∀ a, H1 a = none → spExc fld C (.ref a :: ([v] ++ [])) (upd H1 a (exo a C none)) (fun v H2 => v = .non ∧ ∃ (d : Addr) (fs : List (Str × V)), H2 a = some (exo a C (some d)) ∧ H2 d = some (exd d fs) ∧ H1 d = none ∧ Q (.ref C) (some d) (upd (del H2 a) d (.xd fs))) (fun _ _ _ => False) := by
  refine ⟨(by show 1 ≤ 1000; decide), fun a ha => ⟨a, v, rfl, upd_same, fun dx hd ne => ?_⟩⟩
  have hd1 : H1 dx = none := by
    rw [upd_ne ne] at hd
    exact hd
  refine ⟨rfl, dx, [(fld, v)], upd_same, by rw [upd_ne ne, upd_same], hd1, q dx _ hd1 (fun b o hb => ?_) upd_same⟩
  have nb : b ≠ dx := ne_of_none hb hd1
  have na : b ≠ a := ne_of_none hb ha
  rw [upd_ne nb, del_ne na, upd_ne na, upd_ne nb, upd_ne na]
  exact hb

/-! data of any depth -/
theorem seqT {K : PySem.W.Frag} {H H' : Hp} {a : Addr} {xs : List V} (e : Same H H') (h : SqT K H a xs) : SqT K H' a xs := by
  rcases h with (h | ⟨o, h⟩) | h
  · exact .inl (.inl (e _ _ h))
  · exact .inl (.inr ⟨o, e _ _ h⟩)
  · exact .inr h
mutual
theorem dp_same {K : PySem.W.Frag} {H H' : Hp} (e : Same H H') : ∀ {v : V} {d : PyData}, Dp K H v d → Dp K H' v d
  | _, _, .non => .non
  | _, _, .bl b => .bl b
  | _, _, .int i => .int i
  | _, _, .str x => .str x
  | _, _, .lst h t => .lst (e.seq h) (dpAll_same e t)
  | _, _, .tup h t => .tup (seqT e h) (dpAll_same e t)
theorem dpAll_same {K : PySem.W.Frag} {H H' : Hp} (e : Same H H') : ∀ {vs : List V} {ds : List PyData}, DpAll K H vs ds → DpAll K H' vs ds
  | _, _, .nil => .nil
  | _, _, .cons h t => .cons (dp_same e h) (dpAll_same e t)
end
theorem dpAll_len {K : PySem.W.Frag} {H : Hp} : ∀ {vs : List V} {ds : List PyData}, DpAll K H vs ds → vs.length = ds.length
  | _, _, .nil => rfl
  | _, _, .cons _ t => by rw [List.length_cons, List.length_cons, dpAll_len t]
theorem dpAll_get {K : PySem.W.Frag} {H : Hp} : ∀ {vs : List V} {ds : List PyData} {i : Nat} {v : V}, DpAll K H vs ds → vs[i]? = some v → ∃ d, ds[i]? = some d ∧ Dp K H v d
  | _, _, _, _, .nil, e => by simp at e
  | _, _, 0, _, .cons h _, e => by simp at e; subst e; exact ⟨_, rfl, h⟩
  | _, _, i + 1, v, .cons _ t, e => by
    obtain ⟨d, h1, h2⟩ := dpAll_get (i := i) (v := v) t (by simpa using e)
    exact ⟨d, by simpa using h1, h2⟩
theorem dpAll_append {K : PySem.W.Frag} {H : Hp} : ∀ {vs ws : List V} {ds es : List PyData}, DpAll K H vs ds → DpAll K H ws es → DpAll K H (vs ++ ws) (ds ++ es)
  | _, _, _, _, .nil, b => b
  | _, _, _, _, .cons h t, b => .cons h (dpAll_append t b)
theorem dpAll_of {K : PySem.W.Frag} {H : Hp} {f : Nat → PyData} : ∀ {vs : List V} {n : Nat}, (∀ i v, vs[i]? = some v → Dp K H v (f (n + i))) → DpAll K H vs ((List.range' n vs.length).map f)
  | [], _, _ => .nil
  | v :: vs, n, h => by
    rw [List.length_cons, List.range'_succ, List.map_cons]
    refine .cons (h 0 v rfl) (dpAll_of fun i u e => ?_)
    have := h (i + 1) u (by simpa using e)
    rw [show n + 1 + i = n + (i + 1) by omega]
    exact this
theorem dpAll_mk {K : PySem.W.Frag} {H : Hp} {vs : List V} {ds : List PyData} (hl : vs.length = ds.length) (h : ∀ (i : Nat) v d, vs[i]? = some v → ds[i]? = some d → Dp K H v d) : DpAll K H vs ds := by
  induction vs generalizing ds with
  | nil =>
    cases ds with
    | nil => exact .nil
    | cons d ds => simp at hl
  | cons v vs ih =>
    cases ds with
    | nil => simp at hl
    | cons d ds => exact .cons (h 0 v d rfl rfl) (ih (by simpa using hl) fun i u e hu he => h (i + 1) u e (by simpa using hu) (by simpa using he))
theorem dp_ints {K : PySem.W.Frag} {H : Hp} : ∀ ns : List Int, DpAll K H (ns.map V.int) (ns.map PyData.int)
  | [] => .nil
  | _ :: ns => .cons (.int _) (dp_ints ns)
def tyN : PyData → String
  | .none => "NoneType"
  | .bool _ => "bool"
  | .int _ => "int"
  | .str _ => "str"
  | .list _ => "list"
  | .tuple _ => "tuple"
  | .dict _ => "dict"
theorem tyL {K : PySem.W.Frag} {H : Hp} {a : Addr} {xs : List V} (h : SqL K H a xs) : TyX K H (.ref a) (.type "list") := by
  rcases h with (h | ⟨o, h⟩) | ⟨o, its, n, h1, h2, _⟩
  · exact .base (.lst h)
  · exact .base (.frz h)
  · exact .kList h1 h2
theorem tyT {K : PySem.W.Frag} {H : Hp} {a : Addr} {xs : List V} (h : SqT K H a xs) : TyX K H (.ref a) (.type "tuple") := by
  rcases h with (h | ⟨o, h⟩) | ⟨o, its, n, h1, h2, _⟩
  · exact .base (.tup h)
  · exact .fTuple h
  · exact .kTuple h1 h2
theorem dp_ty {K : PySem.W.Frag} {H : Hp} {v : V} {d : PyData} (h : Dp K H v d) : TyX K H v (.type (tyN d)) := by
  cases h with
  | non => exact .base .non
  | bl b => exact .base (.bl b)
  | int i => exact .base (.int i)
  | str x => exact .base (.str x)
  | lst h _ => exact tyL h
  | tup h _ => exact tyT h
def isI : PyData → Bool
  | .int _ => true
  | _ => false
def isSeq : PyData → Bool
  | .list _ => true
  | .tuple _ => true
  | _ => false
theorem dp_nodict {K : PySem.W.Frag} {H : Hp} {v : V} {kvs : List (PyData × PyData)} (h : Dp K H v (.dict kvs)) : False := by cases h
def isIB : PyData → Bool
  | .int _ => true
  | .bool _ => true
  | _ => false
def isB : PyData → Bool
  | .bool _ => true
  | _ => false
def isS : PyData → Bool
  | .str _ => true
  | _ => false
def isT : PyData → Bool
  | .tuple _ => true
  | _ => false
theorem kitI {K : PySem.W.Frag} {H : Hp} {v : V} {d : PyData} (h : Dp K H v d) : PySem.W.kitOne K (.type (tyN d)) (.type "int") = some (isIB d) := by
  cases d with
  | none => exact kit_ty (show kitB "NoneType" "int" = some false by decide +kernel)
  | bool b => exact kit_ty (show kitB "bool" "int" = some true by decide +kernel)
  | int i => exact kit_ty (show kitB "int" "int" = some true by decide +kernel)
  | str s => exact kit_ty (show kitB "str" "int" = some false by decide +kernel)
  | list xs => exact kit_ty (show kitB "list" "int" = some false by decide +kernel)
  | tuple xs => exact kit_ty (show kitB "tuple" "int" = some false by decide +kernel)
  | dict k => exact (dp_nodict h).elim
theorem kitBl {K : PySem.W.Frag} {H : Hp} {v : V} {d : PyData} (h : Dp K H v d) : PySem.W.kitOne K (.type (tyN d)) (.type "bool") = some (isB d) := by
  cases d with
  | none => exact kit_ty (show kitB "NoneType" "bool" = some false by decide +kernel)
  | bool b => exact kit_ty (show kitB "bool" "bool" = some true by decide +kernel)
  | int i => exact kit_ty (show kitB "int" "bool" = some false by decide +kernel)
  | str s => exact kit_ty (show kitB "str" "bool" = some false by decide +kernel)
  | list xs => exact kit_ty (show kitB "list" "bool" = some false by decide +kernel)
  | tuple xs => exact kit_ty (show kitB "tuple" "bool" = some false by decide +kernel)
  | dict k => exact (dp_nodict h).elim
theorem kitS {K : PySem.W.Frag} {H : Hp} {v : V} {d : PyData} (h : Dp K H v d) : PySem.W.kitOne K (.type (tyN d)) (.type "str") = some (isS d) := by
  cases d with
  | none => exact kit_ty (show kitB "NoneType" "str" = some false by decide +kernel)
  | bool b => exact kit_ty (show kitB "bool" "str" = some false by decide +kernel)
  | int i => exact kit_ty (show kitB "int" "str" = some false by decide +kernel)
  | str s => exact kit_ty (show kitB "str" "str" = some true by decide +kernel)
  | list xs => exact kit_ty (show kitB "list" "str" = some false by decide +kernel)
  | tuple xs => exact kit_ty (show kitB "tuple" "str" = some false by decide +kernel)
  | dict k => exact (dp_nodict h).elim
theorem kitT {K : PySem.W.Frag} {H : Hp} {v : V} {d : PyData} (h : Dp K H v d) : PySem.W.kitOne K (.type (tyN d)) (.type "tuple") = some (isT d) := by
  cases d with
  | none => exact kit_ty (show kitB "NoneType" "tuple" = some false by decide +kernel)
  | bool b => exact kit_ty (show kitB "bool" "tuple" = some false by decide +kernel)
  | int i => exact kit_ty (show kitB "int" "tuple" = some false by decide +kernel)
  | str s => exact kit_ty (show kitB "str" "tuple" = some false by decide +kernel)
  | list xs => exact kit_ty (show kitB "list" "tuple" = some false by decide +kernel)
  | tuple xs => exact kit_ty (show kitB "tuple" "tuple" = some true by decide +kernel)
  | dict k => exact (dp_nodict h).elim
theorem kitSeq {K : PySem.W.Frag} {H : Hp} {v : V} {d : PyData} (h : Dp K H v d) : PySem.W.kitAny K (.type (tyN d)) [.type "list", .type "tuple"] = some (isSeq d) := by
  cases d with
  | none => exact kitAny_cons (b := false) (kit_ty (show kitB "NoneType" "list" = some false by decide +kernel)) (fun _ => kitAny_cons (b := false) (kit_ty (show kitB "NoneType" "tuple" = some false by decide +kernel)) (fun _ => kitAny_nil) (fun z => by cases z)) (fun z => by cases z)
  | bool b => exact kitAny_cons (b := false) (kit_ty (show kitB "bool" "list" = some false by decide +kernel)) (fun _ => kitAny_cons (b := false) (kit_ty (show kitB "bool" "tuple" = some false by decide +kernel)) (fun _ => kitAny_nil) (fun z => by cases z)) (fun z => by cases z)
  | int i => exact kitAny_cons (b := false) (kit_ty (show kitB "int" "list" = some false by decide +kernel)) (fun _ => kitAny_cons (b := false) (kit_ty (show kitB "int" "tuple" = some false by decide +kernel)) (fun _ => kitAny_nil) (fun z => by cases z)) (fun z => by cases z)
  | str s => exact kitAny_cons (b := false) (kit_ty (show kitB "str" "list" = some false by decide +kernel)) (fun _ => kitAny_cons (b := false) (kit_ty (show kitB "str" "tuple" = some false by decide +kernel)) (fun _ => kitAny_nil) (fun z => by cases z)) (fun z => by cases z)
  | list xs => exact kitAny_cons (b := true) (kit_ty (show kitB "list" "list" = some true by decide +kernel)) (fun z => by cases z) (fun _ => rfl)
  | tuple xs => exact kitAny_cons (b := false) (kit_ty (show kitB "tuple" "list" = some false by decide +kernel)) (fun _ => kitAny_cons (b := true) (kit_ty (show kitB "tuple" "tuple" = some true by decide +kernel)) (fun z => by cases z) (fun _ => rfl)) (fun z => by cases z)
  | dict k => exact (dp_nodict h).elim
/-- what is walked may be a list or a tuple -/
def SeqIt (K : PySem.W.Frag) (a : Addr) (H : Hp) (J : It) : Prop := ((∃ xs, SqL K H a xs) ∧ J = Itl K a) ∨ ((∃ xs, SqT K H a xs) ∧ J = Itt K a)
def iSeq (K : PySem.W.Frag) (tl : TE) : TI := fun σ H R => tl σ H fun x H1 => ∃ a, x = .ref a ∧ ∃ J, SeqIt K a H1 J ∧ R J H1
theorem pi_seq {X : Cx} {tg l : Expr} {tl : TE} (hl : PE X l tl) : PI X tg l (iSeq X.K tl) := by
  refine ⟨fun pins s σ H R I h => ?_⟩
  refine thn (hl.run pins s σ H _ I h) fun v s1 ⟨x, H1, I1, r1, q1⟩ => ?_
  obtain ⟨a, e, J, hJ, q⟩ := q1
  subst e
  cases r1
  rcases hJ with ⟨⟨xs, hq⟩, rfl⟩ | ⟨⟨xs, hq⟩, rfl⟩
  · obtain ⟨its, rv, p, hz⟩ := I1.list hq
    refine wpAny_pyIter_list p.isList ?_
    refine ⟨s1.heap.objs.size, [s1.heap.objs.size], _, _, H1, rfl, I1.kept (t' := s1.toks) fun b o e => Heap.get?_push_of_some _ e, turn_list a _, ⟨_, Heap.get?_push_size _ rfl, rfl, rfl⟩, fun b hb => ?_, q⟩
    have e : b = s1.heap.objs.size := by simpa using hb
    subst e
    exact I1.fpOk (Nat.le_refl _) (I1.hok.fresh (Nat.le_refl _))
  · obtain ⟨its, rv, p, hz⟩ := I1.tuple hq
    refine wpAny_pyIter_tuple (show s1.heap.IsTuple a its.toArray from p) ?_
    refine ⟨s1.heap.objs.size, [s1.heap.objs.size], _, _, H1, rfl, I1.kept (t' := s1.toks) fun b o e => Heap.get?_push_of_some _ e, turn_tuple a _, ⟨_, Heap.get?_push_size _ rfl, rfl, rfl⟩, fun b hb => ?_, q⟩
    have e : b = s1.heap.objs.size := by simpa using hb
    subst e
    exact I1.fpOk (Nat.le_refl _) (I1.hok.fresh (Nat.le_refl _))
/-- H without what stands at a -/
def wo (H : Hp) (a : Addr) : Hp := fun b => if b = a then none else H b
theorem wo_ne {H : Hp} {a b : Addr} (h : b ≠ a) : wo H a b = H b := if_neg h
theorem wo_same {H : Hp} {a : Addr} : Same (wo H a) H := fun b o e => by
  by_cases h : b = a
  · rw [show wo H a b = none from if_pos h] at e
    cases e
  · rw [wo_ne h] at e
    exact e
theorem wo_mono {H H' : Hp} {a : Addr} (s : Same H H') : Same (wo H a) (wo H' a) := fun b o e => by
  by_cases h : b = a
  · rw [show wo H a b = none from if_pos h] at e
    cases e
  · rw [wo_ne h] at e
    rw [wo_ne h]
    exact s b o e
theorem wo_upd {H : Hp} {a : Addr} {o : HO} : wo (upd H a o) a = wo H a := by
  funext b
  by_cases h : b = a
  · rw [show wo (upd H a o) a b = none from if_pos h, show wo H a b = none from if_pos h]
  · rw [wo_ne h, wo_ne h, upd_ne h]
theorem wo_free {H : Hp} {a : Addr} (h : H a = none) : Same H (wo H a) := fun b o e => by
  rw [wo_ne (ne_of_none e h)]
  exact e
/-- a comprehension without a test whose elements change nothing that stood: R tells of the i-th one, in the heap without the new list -/
theorem lc_same {J : It} {n : Nat} {G : Hp → Prop} {Y : Nat → Hp → V → Hp → Prop} (w : Walk J n G Y) {g : TG} {te : TE} {vs : List Nat} {σ : L2.St} {H1 : Hp} {L : Addr} {Q : Hp → Prop} (hL : H1 L = none) (hn : n ≤ 1000) (hG : ∀ H', Same H1 H' → G H')
    (R : Nat → V → Hp → Prop) (hR : ∀ i y H H', Same H H' → R i y H → R i y H')
    (hs : ∀ i x H H' (k : VK), i < n → Same H1 H → (∃ acc, H L = some (.lst acc)) → Y i H x H' → (∀ y H'', Same H H'' → R i y (wo H'' L) → k y H'') → g x (wipe σ vs) H' fun σ2 H2 => wipe σ2 vs = wipe σ vs ∧ te σ2 H2 k)
    (hd : ∀ ys H', ys.length = n → (∀ i y, ys[i]? = some y → R i y (wo H' L)) → Same H1 H' → H' L = some (.lst ys) → Q H') :
    ∃ W : Nat → Nat → Hp → Prop, (∃ m, W 0 m (upd H1 L (.lst []))) ∧ ∀ i m H, W i m H →
      (J.stop i H ∧ Q H) ∨ (J.go i H ∧ ∃ Nx : Hp → Prop, (∀ H', Nx H' → ∃ m', m' < m ∧ W (i + 1) m' H') ∧ ∀ x H', J.yld i H x H' → g x (wipe σ vs) H' fun σ2 H2 => wipe σ2 vs = wipe σ vs ∧ tYes σ2 H2 fun b H3 =>
        if b = true then te σ2 H3 fun y H4 => ∃ acc, H4 L = some (.lst acc) ∧ acc.length < sizeLine ∧ Nx (upd H4 L (.lst (acc ++ [y]))) else Nx H3) := by
  refine lc_it w (fun i H => Same H1 H ∧ ∃ ys, ys.length = i ∧ H L = some (.lst ys) ∧ ∀ j y, ys[j]? = some y → R j y (wo H L)) ⟨same_new (Same.refl _) hL, [], rfl, upd_same, fun j y e => by simp at e⟩ (fun i H _ p => hG H p.1) ?_ ?_
  · rintro i x H H' hi ⟨s1, ys, hl, hy, hr⟩ y
    refine hs i x H H' _ hi s1 ⟨ys, hy⟩ y fun y H'' s2 r => ?_
    refine ⟨ys, s2 _ _ hy, by rw [hl]; exact Nat.lt_of_lt_of_le hi (Nat.le_trans hn (by decide)), same_mut (s1.trans s2) hL, ys ++ [y], by rw [List.length_append, hl]; rfl, upd_same, fun j z e => ?_⟩
    rw [wo_upd]
    by_cases hj : j < ys.length
    · rw [List.getElem?_append_left hj] at e
      exact hR j z _ _ (wo_mono s2) (hr j z e)
    · rw [List.getElem?_append_right (by omega)] at e
      have hj0 : j - ys.length = 0 := by
        rcases Nat.eq_zero_or_pos (j - ys.length) with z | z
        · exact z
        · rw [List.getElem?_eq_none (by simp; omega)] at e
          cases e
      rw [hj0] at e
      have ez : y = z := by simpa using e
      have ej : j = i := by omega
      rw [ej, ← ez]
      exact r
  · rintro H ⟨s1, ys, hl, hy, hr⟩
    exact hd ys H hl hr s1 hy
theorem seq_it {K : PySem.W.Frag} {H : Hp} {a : Addr} {xs : List V} (h : SqL K H a xs ∨ SqT K H a xs) : ∃ J, SeqIt K a H J ∧ Walk J xs.length (fun H' => Same H H') (YAt xs) := by
  rcases h with h | h
  · exact ⟨_, .inl ⟨⟨xs, h⟩, rfl⟩, (walk_list (K := K) (a := a) (xs := xs)).mono (fun H' s => s.seq h) fun _ _ _ _ _ _ y => y⟩
  · exact ⟨_, .inr ⟨⟨xs, h⟩, rfl⟩, (walk_tup (K := K) (a := a) (xs := xs)).mono (fun H' s => seqT s h) fun _ _ _ _ _ _ y => y⟩
/-- a list or tuple of data -/
theorem seq_src {K : PySem.W.Frag} {H : Hp} {v : V} {d : PyData} (hd : Dp K H v d) (h : isSeq d = true) : ∃ (a : Addr) (xs : List V) (ds : List PyData), v = .ref a ∧ DpAll K H xs ds ∧ (SqL K H a xs ∨ SqT K H a xs) ∧ (d = .list ds ∨ d = .tuple ds) := by
  cases hd with
  | non => cases h
  | bl b => cases h
  | int i => cases h
  | str x => cases h
  | @lst a xs ds h1 h2 => exact ⟨a, xs, ds, rfl, h2, .inl h1, .inl rfl⟩
  | @tup a xs ds h1 h2 => exact ⟨a, xs, ds, rfl, h2, .inr h1, .inr rfl⟩
theorem sq_same {K : PySem.W.Frag} {H H' : Hp} {a : Addr} {xs : List V} (s : Same H H') (h : SqL K H a xs ∨ SqT K H a xs) : SqL K H' a xs ∨ SqT K H' a xs := h.elim (fun z => .inl (s.seq z)) (fun z => .inr (seqT s z))
/-- a comprehension without a test whose elements draw from the pool at p -/
theorem lc_dr {J : It} {n : Nat} {G : Hp → Prop} {Y : Nat → Hp → V → Hp → Prop} (w : Walk J n G Y) {g : TG} {te : TE} {vs : List Nat} {σ : L2.St} {H1 : Hp} {L p : Addr} {Q : Hp → Prop} (hp : Pool H1 p) (hL : H1 L = none) (hn : n ≤ 1000) (hG : ∀ H', Dr p H1 H' → G H')
    (R : Nat → V → Hp → Prop) (hR : ∀ i y H H', Kp p H H' → R i y H → R i y H')
    (hs : ∀ i x H H' (k : VK), i < n → Dr p H1 H → (∃ acc, H L = some (.lst acc)) → Y i H x H' → (∀ y H'', Dr p H H'' → R i y (wo H'' L) → k y H'') → g x (wipe σ vs) H' fun σ2 H2 => wipe σ2 vs = wipe σ vs ∧ te σ2 H2 k)
    (hd : ∀ ys H', ys.length = n → (∀ i y, ys[i]? = some y → R i y (wo H' L)) → Dr p H1 H' → H' L = some (.lst ys) → Q H') :
    ∃ W : Nat → Nat → Hp → Prop, (∃ m, W 0 m (upd H1 L (.lst []))) ∧ ∀ i m H, W i m H →
      (J.stop i H ∧ Q H) ∨ (J.go i H ∧ ∃ Nx : Hp → Prop, (∀ H', Nx H' → ∃ m', m' < m ∧ W (i + 1) m' H') ∧ ∀ x H', J.yld i H x H' → g x (wipe σ vs) H' fun σ2 H2 => wipe σ2 vs = wipe σ vs ∧ tYes σ2 H2 fun b H3 =>
        if b = true then te σ2 H3 fun y H4 => ∃ acc, H4 L = some (.lst acc) ∧ acc.length < sizeLine ∧ Nx (upd H4 L (.lst (acc ++ [y]))) else Nx H3) := by
  have nL : L ≠ p ∧ H1 L = none := (Dr.refl hp).free hL
  have mono : ∀ {H H' : Hp}, Kp p H H' → Kp p (wo H L) (wo H' L) := fun {H H'} k b o hb e => by
    by_cases h : b = L
    · rw [show wo H L b = none from if_pos h] at e
      cases e
    · rw [wo_ne h] at e
      rw [wo_ne h]
      exact k b o hb e
  refine lc_it w (fun i H => Dr p H1 H ∧ ∃ ys, ys.length = i ∧ H L = some (.lst ys) ∧ ∀ j y, ys[j]? = some y → R j y (wo H L)) ⟨(Dr.refl hp).new hL, [], rfl, upd_same, fun j y e => by simp at e⟩ (fun i H _ p => hG H p.1) ?_ ?_
  · rintro i x H H' hi ⟨s1, ys, hl, hy, hr⟩ y
    refine hs i x H H' _ hi s1 ⟨ys, hy⟩ y fun y H'' s2 r => ?_
    refine ⟨ys, s2.1 _ _ nL.1 hy, by rw [hl]; exact Nat.lt_of_lt_of_le hi (Nat.le_trans hn (by decide)), (s1.trans s2).mut nL, ys ++ [y], by rw [List.length_append, hl]; rfl, upd_same, fun j z e => ?_⟩
    rw [wo_upd]
    by_cases hj : j < ys.length
    · rw [List.getElem?_append_left hj] at e
      exact hR j z _ _ (mono s2.1) (hr j z e)
    · rw [List.getElem?_append_right (by omega)] at e
      have hj0 : j - ys.length = 0 := by
        rcases Nat.eq_zero_or_pos (j - ys.length) with z | z
        · exact z
        · rw [List.getElem?_eq_none (by simp; omega)] at e
          cases e
      rw [hj0] at e
      have ez : y = z := by simpa using e
      have ej : j = i := by omega
      rw [ej, ← ez]
      exact r
  · rintro H ⟨s1, ys, hl, hy, hr⟩
    exact hd ys H hl hr s1 hy
/-! shapes -/
def Shp (k : Nat) (d : PyData) : Prop := d.canLay0 = true ∧ d.depth ≤ k
theorem Shp.shaped {k : Nat} {d : PyData} (h : Shp k d) (hk : k ≤ 64) : SeqAt.shaped d = true := by
  unfold SeqAt.shaped
  rw [h.1, decide_eq_true (Nat.le_trans h.2 hk)]
  rfl
theorem shp_all {k : Nat} : ∀ {ds : List PyData}, (∀ d ∈ ds, Shp k d) → PyData.canLayAll0 ds = true ∧ PyData.depthAll ds ≤ k
  | [], _ => ⟨rfl, Nat.zero_le _⟩
  | d :: ds, h => by
    obtain ⟨h1, h2⟩ := h d List.mem_cons_self
    obtain ⟨h3, h4⟩ := shp_all (ds := ds) fun e he => h e (List.mem_cons_of_mem _ he)
    refine ⟨?_, ?_⟩
    · show (PyData.canLay0 d && PyData.canLayAll0 ds) = true
      rw [h1, h3]
      rfl
    · show max (PyData.depth d) (PyData.depthAll ds) ≤ k
      exact Nat.max_le.mpr ⟨h2, h4⟩
theorem shp_list {k : Nat} {ds : List PyData} (h : ∀ d ∈ ds, Shp k d) : Shp (k + 1) (.list ds) := ⟨(shp_all h).1, Nat.succ_le_succ (shp_all h).2⟩
theorem shp_tuple {k : Nat} {ds : List PyData} (h : ∀ d ∈ ds, Shp k d) : Shp (k + 1) (.tuple ds) := ⟨(shp_all h).1, Nat.succ_le_succ (shp_all h).2⟩
theorem shp_int {i : Int} : Shp 1 (.int i) := ⟨rfl, by first | exact Nat.zero_le _ | exact Nat.le_refl _ | decide⟩
theorem shp_none : Shp 1 .none := ⟨rfl, by first | exact Nat.zero_le _ | exact Nat.le_refl _ | decide⟩
theorem shp_bool {b : Bool} : Shp 1 (.bool b) := ⟨rfl, by first | exact Nat.zero_le _ | exact Nat.le_refl _ | decide⟩
theorem Shp.mono {k l : Nat} {d : PyData} (h : Shp k d) (hl : k ≤ l) : Shp l d := ⟨h.1, Nat.le_trans h.2 hl⟩
theorem shp_ints {ns : List Int} : Shp 2 (.list (ns.map PyData.int)) := shp_list fun d hd => by
  obtain ⟨i, _, rfl⟩ := List.mem_map.mp hd
  exact shp_int

/-! the rules whose readings name the written part, with that part as a letter of its own -/
section
variable {X : Cx} {K : PySem.W.Frag} {tg l : Expr} {tl : TE}
def rLenSq (K : PySem.W.Frag) : List V → Hp → VK → Prop := fun xs H Q => ∃ p ys, xs = [.ref p] ∧ (SqL K H p ys ∨ SqT K H p ys) ∧ Q (.int ys.length) H
def rListOf (K : PySem.W.Frag) : List V → Hp → VK → Prop := fun xs H Q => ∃ p ys, xs = [.ref p] ∧ (SqL K H p ys ∨ SqT K H p ys) ∧ ∀ l, H l = none → Q (.ref l) (upd H l (.lst ys))
def rTupleOf (K : PySem.W.Frag) : List V → Hp → VK → Prop := fun xs H Q => ∃ p ys, xs = [.ref p] ∧ ((SqL K H p ys ∧ ∀ l, H l = none → Q (.ref l) (upd H l (.tup ys))) ∨ (SqT K H p ys ∧ Q (.ref p) H))
theorem k_len (hK : X.K = K) : CallR X (.builtin "len") (rLenSq K) := by subst hK; exact call_len_seq
theorem k_list (hK : X.K = K) : CallR X (.type "list") (rListOf K) := by subst hK; exact call_list_of
theorem k_tuple (hK : X.K = K) : CallR X (.type "tuple") (rTupleOf K) := by subst hK; exact call_tuple_of
theorem k_all (hK : X.K = K) (hc : X.calm = true) : CallR X (.builtin "all") (rAll K) := by subst hK; exact cr_all hc
theorem k_any (hK : X.K = K) (hc : X.calm = true) : CallR X (.builtin "any") (rAny K) := by subst hK; exact cr_any hc
theorem k_sum (hK : X.K = K) (hc : X.calm = true) : CallR X (.builtin "sum") (rSum K) := by subst hK; exact cr_sum hc
theorem k_isi (hK : X.K = K) : CallR X (.builtin "isinstance") (rIsi K) := by subst hK; exact call_isi
theorem k_isiT (hK : X.K = K) : CallR X (.builtin "isinstance") (rIsiT K) := by subst hK; exact call_isiT
theorem kix_list (hK : X.K = K) : IxR X (rIxL K) := by subst hK; exact ix_list
theorem kix_tup (hK : X.K = K) : IxR X (rIxT K) := by subst hK; exact ix_tup
theorem kix_seq (hK : X.K = K) : IxR X (rIx K) := by subst hK; exact ix_seq
theorem ksl_list (hK : X.K = K) : SlR X (rSlL K) := by subst hK; exact sl_list
theorem ksl_tup (hK : X.K = K) : SlR X (rSlT K) := by subst hK; exact sl_tup
theorem kop_in (hK : X.K = K) : OpR X (compareOp .In) (rIn K false) := by subst hK; exact op_in_seq
theorem kop_notIn (hK : X.K = K) : OpR X (compareOp .NotIn) (rIn K true) := by subst hK; exact op_notIn_seq
theorem kop_eqD (hK : X.K = K) (hu : X.A.units + 64 < cLine) : OpR X (compareOp .Eq) (rEqD K) := by subst hK; exact op_eqD hu
theorem kop_neD (hK : X.K = K) (hu : X.A.units + 64 < cLine) : OpR X (compareOp .NotEq) (rNeD K) := by subst hK; exact op_neD hu
theorem kpi_list (hK : X.K = K) (hl : PE X l tl) : PI X tg l (iList K tl) := by subst hK; exact pi_list hl
theorem kpi_tup (hK : X.K = K) (hl : PE X l tl) : PI X tg l (iTup K tl) := by subst hK; exact pi_tup hl
theorem kpi_seq (hK : X.K = K) (hl : PE X l tl) : PI X tg l (iSeq K tl) := by subst hK; exact pi_seq hl
theorem kpi_zip (hK : X.K = K) {e e2 : Expr} {ta : TA} {p pos tpos : Pos} {elts : List Expr} {kk : Nat} (hg : Gl X "zip") (hm : X.mg "zip" = none) (ha : PA X [e, e2] ta)
    (hs : starEach [e, e2] X.env = (false, eval e X.env) :: starEach [e2] X.env := by rfl) (hpl : (backTo pos (starEach [e2] X.env)).any (·.1) = false := by rfl) :
    PI X (.Tuple elts kk tpos) (.Call (.Name "zip" p) [e, e2] [] pos) (iZip K ta) := by subst hK; exact pi_zip hg hm ha hs hpl
theorem kpi_enum (hK : X.K = K) {e : Expr} {ta : TA} {p pos tpos : Pos} {elts : List Expr} {kk : Nat} (hg : Gl X "enumerate") (hm : X.mg "enumerate" = none) (ha : PA X [e] ta) (hs : starEach [e] X.env = [(false, eval e X.env)] := by rfl) :
    PI X (.Tuple elts kk tpos) (.Call (.Name "enumerate" p) [e] [] pos) (iEnum K ta) := by subst hK; exact pi_enum hg hm ha hs
theorem kpg_tup (hK : X.K = K) {es : List Expr} {k : Nat} {t : TGs} {n : Nat} {pos : Pos} (hc : X.calm = true) (h : PGs X es t)
    (hn : (assignEach es X.env).length = n := by rfl) (hst : (assignEach es X.env).findIdx? (·.1) = none := by rfl) : PG X (.Tuple es k pos) (gTup K n t) := by subst hK; exact pg_tup hc h hn hst
end

def d2 (a b c d : Int) : Int := a * d - b * c
def d3 (a b c d e f g h i : Int) : Int := a * (e * i - f * h) - b * (d * i - f * g) + c * (d * h - e * g)
def d4 (a b c d e f g h i j k l m n o p : Int) : Int := a * d3 f g h j k l n o p - b * d3 e g h i k l m o p + c * d3 e f h i j l m n p - d * d3 e f g i j k m n o
theorem el3 (a b c d e f g h i : Int) : a * d3 a b c d e f g h i = d2 (a * e - d * b) (a * f - d * c) (a * h - g * b) (a * i - g * c) := by unfold d3 d2; grind
set_option maxHeartbeats 4000000 in
theorem el4 (a b c d e f g h i j k l m n o p : Int) : a * a * d4 a b c d e f g h i j k l m n o p = d3 (a * f - e * b) (a * g - e * c) (a * h - e * d) (a * j - i * b) (a * k - i * c) (a * l - i * d) (a * n - m * b) (a * o - m * c) (a * p - m * d) := by unfold d4 d3; grind
theorem d3_sw1 (a b c d e f g h i : Int) : d3 d e f a b c g h i = -d3 a b c d e f g h i := by unfold d3; grind
theorem d3_sw2 (a b c d e f g h i : Int) : d3 g h i d e f a b c = -d3 a b c d e f g h i := by unfold d3; grind
/-! the program's way -/
abbrev Mat := List (List Int)
def row (M : Mat) (i : Nat) : List Int := M.getD i []
def pivot (M : Mat) (n : Nat) : Option Nat := (List.range' n (M.length - n)).find? fun i => (row M i).getD n 0 != 0
def clr (r b : List Int) (n : Nat) (q : Int) : List Int := List.zipWith (fun x y => (b.getD n 0 * x - r.getD n 0 * y).fdiv q) r b
def clrAll (M : Mat) (n : Nat) (q : Int) : Mat := M.mapIdx fun i r => if n < i then clr r (row M n) n q else r
def swapR (M : Mat) (i j : Nat) : Mat := (M.set i (row M j)).set j (row M i)
def bareL : Nat → Nat → Mat → Int → Int → Int
  | 0, _, _, s, b => s * b
  | k + 1, n, M, s, b => match pivot M n with
    | none => 0
    | some i => if i = n then bareL k (n + 1) (clrAll M n b) s ((row M n).getD n 0) else bareL k (n + 1) (clrAll (swapR M n i) n b) (-s) ((row (swapR M n i) n).getD n 0)
/-! stages: R the rows ahead, Z the columns ahead -/
theorem getD_app {α : Type} (R S : List α) (k : Nat) (d : α) : (R ++ S).getD (R.length + k) d = S.getD k d := by
  simp [List.getD_eq_getElem?_getD, List.getElem?_append_right]
theorem getD_at {Z xs : List Int} {n : Nat} (h : Z.length = n) : (Z ++ xs).getD n 0 = xs.getD 0 0 := by
  subst h
  exact getD_app Z xs 0 0
theorem fdiv_mul {q x : Int} (h : q ≠ 0) : (q * x).fdiv q = x := Int.mul_fdiv_cancel_left _ h
theorem fdiv_of {q x y : Int} (h : q ≠ 0) (e : y = q * x) : y.fdiv q = x := by rw [e, fdiv_mul h]
theorem clr_app {Z W : List Int} {n : Nat} (hZ : Z.length = n) (hW : W.length = n) (xs ys : List Int) (q : Int) :
    ∃ U : List Int, U.length = n ∧ clr (Z ++ xs) (W ++ ys) n q = U ++ List.zipWith (fun x y => (ys.getD 0 0 * x - xs.getD 0 0 * y).fdiv q) xs ys := by
  refine ⟨List.zipWith (fun x y => (ys.getD 0 0 * x - xs.getD 0 0 * y).fdiv q) Z W, by simp [hZ, hW], ?_⟩
  unfold clr
  rw [getD_at hZ, getD_at hW, List.zipWith_append (by omega)]
theorem row_app {R S : Mat} {n k : Nat} (hR : R.length = n) : row (R ++ S) (n + k) = row S k := by subst hR; exact getD_app R S k []
def piv (S : Mat) (n : Nat) : Option Nat := S.findIdx? fun r => r.getD n 0 != 0
theorem piv_find {n : Nat} : ∀ (S R : Mat) {m : Nat}, R.length = m → ((List.range' m S.length).find? fun i => (row (R ++ S) i).getD n 0 != 0) = (piv S n).map (m + ·)
  | [], R, m, _ => rfl
  | r :: S, R, m, h => by
    have ih := piv_find (n := n) S (R ++ [r]) (m := m + 1) (by simp [h])
    have e0 : row (R ++ r :: S) m = r := row_app (k := 0) h
    have er : (R ++ [r]) ++ S = R ++ r :: S := by simp
    rw [er] at ih
    rw [List.length_cons, List.range'_succ, List.find?_cons, e0]
    unfold piv
    rw [List.findIdx?_cons]
    cases hc : (r.getD n 0 != 0) with
    | true => rfl
    | false =>
      show List.find? _ _ = _
      rw [ih]
      unfold piv
      cases S.findIdx? fun r => r.getD n 0 != 0 with
      | none => rfl
      | some k =>
        show some (m + 1 + k) = some (m + (k + 1))
        congr 1
        omega
theorem pivot_app {R S : Mat} {n : Nat} (hR : R.length = n) : pivot (R ++ S) n = (piv S n).map (n + ·) := by
  unfold pivot
  have e : (R ++ S).length - n = S.length := by simp [hR]
  rw [e]
  exact piv_find S R hR
theorem clrAll_app {R S : Mat} {r : List Int} {n : Nat} (hR : R.length = n) (q : Int) : clrAll (R ++ r :: S) n q = R ++ r :: S.map fun x => clr x r n q := by
  unfold clrAll
  have e : row (R ++ r :: S) n = r := row_app (k := 0) hR
  rw [e]
  subst hR
  rw [List.mapIdx_append]
  congr 1
  · apply List.ext_getElem
    · simp
    · intro i h1 h2
      simp at h1 ⊢
      omega
  · rw [List.mapIdx_cons]
    simp
    apply List.ext_getElem
    · simp
    · intro i h1 h2
      simp
      try omega
theorem swap_app {R S : Mat} {n k : Nat} (hR : R.length = n) : swapR (R ++ S) n (n + k) = R ++ swapR S 0 k := by
  unfold swapR
  rw [row_app hR, show row (R ++ S) n = row S 0 from row_app (k := 0) hR]
  subst hR
  rw [List.set_append_right _ _ (Nat.le_refl _), List.set_append_right _ _ (by omega)]
  simp
theorem bare_go {R S : Mat} {r : List Int} {n k : Nat} (hR : R.length = n) {s q : Int} (h : r.getD n 0 ≠ 0) :
    bareL (k + 1) n (R ++ r :: S) s q = bareL k (n + 1) ((R ++ [r]) ++ S.map fun x => clr x r n q) s (r.getD n 0) := by
  have hp : pivot (R ++ r :: S) n = some n := by
    rw [pivot_app hR]
    unfold piv
    rw [List.findIdx?_cons, if_pos (by simpa using h)]
    rfl
  have e : row (R ++ r :: S) n = r := row_app (k := 0) hR
  rw [bareL, hp]
  show (if n = n then _ else _) = _
  rw [if_pos rfl, clrAll_app hR, e, List.append_assoc]
  rfl
theorem bare_none {R S : Mat} {n k : Nat} (hR : R.length = n) {s q : Int} (h : ∀ r ∈ S, r.getD n 0 = 0) : bareL (k + 1) n (R ++ S) s q = 0 := by
  have hp : pivot (R ++ S) n = none := by
    rw [pivot_app hR]
    unfold piv
    rw [List.findIdx?_eq_none_iff.mpr fun r hr => by rw [h r hr]; rfl]
    rfl
  rw [bareL, hp]
theorem bare_swap {R S : Mat} {n k j : Nat} (hR : R.length = n) {s q : Int} (hp : piv S n = some j) (hj : j ≠ 0) (h0 : piv (swapR S 0 j) n = some 0) :
    bareL (k + 1) n (R ++ S) s q = bareL (k + 1) n (R ++ swapR S 0 j) (-s) q := by
  have e1 : pivot (R ++ S) n = some (n + j) := by rw [pivot_app hR, hp]; rfl
  have e2 : pivot (R ++ swapR S 0 j) n = some n := by rw [pivot_app hR, h0]; rfl
  rw [bareL, e1, bareL, e2]
  show (if n + j = n then _ else _) = (if n = n then _ else _)
  rw [if_neg (by omega), if_pos rfl, swap_app hR]
theorem st1 {R : Mat} {Z : List Int} {n : Nat} (hR : R.length = n) (hZ : Z.length = n) (s q x : Int) : bareL 1 n (R ++ [Z ++ [x]]) s q = s * x := by
  by_cases h : x = 0
  · rw [bare_none hR (by intro r hr; rw [List.mem_singleton.mp hr, getD_at hZ]; exact h), h, Int.mul_zero]
  · rw [bare_go hR (by rw [getD_at hZ]; exact h), getD_at hZ]
    rfl
theorem cancel3 {a q D u1 u2 u3 u4 : Int} (e3 : a * (q * q * D) = q * u1 * (q * u4) - q * u2 * (q * u3)) : q * q * (u1 * u4 - u3 * u2) = q * q * (a * D) := by grind
/-- a stage whose pivot stands on top -/
theorem st2a {R : Mat} {Z W : List Int} {n : Nat} (hR : R.length = n) (hZ : Z.length = n) (hW : W.length = n) {s q a b c d D : Int} (hq : q ≠ 0) (ha : a ≠ 0) (h : a * d - c * b = q * D) :
    bareL 2 n (R ++ [Z ++ [a, b], W ++ [c, d]]) s q = s * D := by
  rw [bare_go hR (by rw [getD_at hZ]; exact ha)]
  obtain ⟨U, hU, eU⟩ := clr_app hW hZ [c, d] [a, b] q
  have e5 : (a * d - c * b).fdiv q = D := fdiv_of hq h
  show bareL 1 (n + 1) ((R ++ [Z ++ [a, b]]) ++ [clr (W ++ [c, d]) (Z ++ [a, b]) n q]) s _ = _
  rw [eU]
  have key := st1 (R := R ++ [Z ++ [a, b]]) (Z := U ++ [(a * c - c * a).fdiv q]) (n := n + 1) (by simp [hR]) (by simp [hU]) s ((Z ++ [a, b]).getD n 0) ((a * d - c * b).fdiv q)
  rw [e5, List.append_assoc U] at key
  show bareL 1 (n + 1) ((R ++ [Z ++ [a, b]]) ++ [U ++ [(a * c - c * a).fdiv q, (a * d - c * b).fdiv q]]) s _ = _
  rw [e5]
  exact key
theorem st2 {R : Mat} {Z W : List Int} {n : Nat} (hR : R.length = n) (hZ : Z.length = n) (hW : W.length = n) {s q a b c d D : Int} (hq : q ≠ 0) (h : a * d - c * b = q * D) :
    bareL 2 n (R ++ [Z ++ [a, b], W ++ [c, d]]) s q = s * D := by
  by_cases ha : a = 0
  · by_cases hc : c = 0
    · have hD : D = 0 := by
        have : q * D = 0 := by rw [← h, ha, hc]; simp
        exact (Int.mul_eq_zero.mp this).resolve_left hq
      rw [bare_none hR (by
        intro r hr
        simp only [List.mem_cons, List.not_mem_nil, or_false] at hr
        rcases hr with rfl | rfl
        · rw [getD_at hZ]; exact ha
        · rw [getD_at hW]; exact hc), hD, Int.mul_zero]
    · rw [bare_swap (j := 1) hR (by
        unfold piv
        simp only [List.findIdx?_cons, getD_at hZ, getD_at hW]
        simp [ha, hc]) (by decide) (by
        unfold piv
        show List.findIdx? _ [W ++ [c, d], Z ++ [a, b]] = _
        simp only [List.findIdx?_cons, getD_at hZ, getD_at hW]
        simp [ha, hc])]
      have := st2a (R := R) hR hW hZ (s := -s) (q := q) (a := c) (b := d) (c := a) (d := b) (D := -D) hq hc (by grind)
      show bareL 2 n (R ++ [W ++ [c, d], Z ++ [a, b]]) (-s) q = _
      rw [this]
      grind
  · exact st2a hR hZ hW hq ha h
theorem st3a {R : Mat} {Z W Y : List Int} {n : Nat} (hR : R.length = n) (hZ : Z.length = n) (hW : W.length = n) (hY : Y.length = n) {s q a b c d e f g h i D u1 u2 u3 u4 : Int} (hq : q ≠ 0) (ha : a ≠ 0)
    (h1 : a * e - d * b = q * u1) (h2 : a * f - d * c = q * u2) (h3 : a * h - g * b = q * u3) (h4 : a * i - g * c = q * u4) (hD : d3 a b c d e f g h i = q * q * D) :
    bareL 3 n (R ++ [Z ++ [a, b, c], W ++ [d, e, f], Y ++ [g, h, i]]) s q = s * D := by
  rw [bare_go hR (by rw [getD_at hZ]; exact ha)]
  obtain ⟨U, hU, eU⟩ := clr_app hW hZ [d, e, f] [a, b, c] q
  obtain ⟨V, hV, eV⟩ := clr_app hY hZ [g, h, i] [a, b, c] q
  show bareL 2 (n + 1) ((R ++ [Z ++ [a, b, c]]) ++ [clr (W ++ [d, e, f]) (Z ++ [a, b, c]) n q, clr (Y ++ [g, h, i]) (Z ++ [a, b, c]) n q]) s _ = _
  rw [eU, eV, getD_at hZ]
  have key := st2 (R := R ++ [Z ++ [a, b, c]]) (Z := U ++ [(a * d - d * a).fdiv q]) (W := V ++ [(a * g - g * a).fdiv q]) (n := n + 1) (by simp [hR]) (by simp [hU]) (by simp [hV]) (s := s) (q := a) (a := u1) (b := u2) (c := u3) (d := u4) (D := D) ha (by
    have e3 := el3 a b c d e f g h i
    rw [hD, h1, h2, h3, h4] at e3
    unfold d2 at e3
    exact Int.eq_of_mul_eq_mul_left (Int.mul_ne_zero hq hq) (cancel3 e3))
  rw [List.append_assoc U, List.append_assoc V] at key
  show bareL 2 (n + 1) ((R ++ [Z ++ [a, b, c]]) ++ [U ++ [(a * d - d * a).fdiv q, (a * e - d * b).fdiv q, (a * f - d * c).fdiv q], V ++ [(a * g - g * a).fdiv q, (a * h - g * b).fdiv q, (a * i - g * c).fdiv q]]) s a = _
  rw [fdiv_of hq h1, fdiv_of hq h2, fdiv_of hq h3, fdiv_of hq h4]
  exact key
/-- all minors of two rows and a first column divisible by q -/
def Mn (q a b c d e f : Int) : Prop := (∃ u, a * e - d * b = q * u) ∧ ∃ u, a * f - d * c = q * u
theorem Mn.swap {q a b c d e f : Int} (h : Mn q a b c d e f) : Mn q d e f a b c := by
  obtain ⟨⟨u, hu⟩, ⟨v, hv⟩⟩ := h
  exact ⟨⟨-u, by grind⟩, ⟨-v, by grind⟩⟩
theorem st3 {R : Mat} {Z W Y : List Int} {n : Nat} (hR : R.length = n) (hZ : Z.length = n) (hW : W.length = n) (hY : Y.length = n) {s q a b c d e f g h i D : Int} (hq : q ≠ 0)
    (m1 : Mn q a b c d e f) (m2 : Mn q a b c g h i) (m3 : Mn q d e f g h i) (hD : d3 a b c d e f g h i = q * q * D) :
    bareL 3 n (R ++ [Z ++ [a, b, c], W ++ [d, e, f], Y ++ [g, h, i]]) s q = s * D := by
  by_cases ha : a = 0
  · by_cases hd : d = 0
    · by_cases hg : g = 0
      · have hD0 : D = 0 := by
          have : q * q * D = 0 := by rw [← hD, ha, hd, hg]; unfold d3; grind
          exact (Int.mul_eq_zero.mp this).resolve_left (Int.mul_ne_zero hq hq)
        rw [bare_none hR (by
          intro r hr
          simp only [List.mem_cons, List.not_mem_nil, or_false] at hr
          rcases hr with rfl | rfl | rfl
          · rw [getD_at hZ]; exact ha
          · rw [getD_at hW]; exact hd
          · rw [getD_at hY]; exact hg), hD0, Int.mul_zero]
      · rw [bare_swap (j := 2) hR (by
          unfold piv
          simp only [List.findIdx?_cons, getD_at hZ, getD_at hW, getD_at hY]
          simp [ha, hd, hg]) (by decide) (by
          unfold piv
          show List.findIdx? _ [Y ++ [g, h, i], W ++ [d, e, f], Z ++ [a, b, c]] = _
          simp only [List.findIdx?_cons, getD_at hZ, getD_at hW, getD_at hY]
          simp [hg])]
        obtain ⟨⟨u1, e1⟩, ⟨u2, e2⟩⟩ := m3.swap
        obtain ⟨⟨u3, e3⟩, ⟨u4, e4⟩⟩ := m2.swap
        have := st3a (R := R) hR hY hW hZ (s := -s) (D := -D) hq hg e1 e2 e3 e4 (by rw [d3_sw2, hD]; grind)
        show bareL 3 n (R ++ [Y ++ [g, h, i], W ++ [d, e, f], Z ++ [a, b, c]]) (-s) q = _
        rw [this]
        grind
    · rw [bare_swap (j := 1) hR (by
        unfold piv
        simp only [List.findIdx?_cons, getD_at hZ, getD_at hW, getD_at hY]
        simp [ha, hd]) (by decide) (by
        unfold piv
        show List.findIdx? _ [W ++ [d, e, f], Z ++ [a, b, c], Y ++ [g, h, i]] = _
        simp only [List.findIdx?_cons, getD_at hZ, getD_at hW, getD_at hY]
        simp [hd])]
      obtain ⟨⟨u1, e1⟩, ⟨u2, e2⟩⟩ := m1.swap
      obtain ⟨⟨u3, e3⟩, ⟨u4, e4⟩⟩ := m3
      have := st3a (R := R) hR hW hZ hY (s := -s) (D := -D) hq hd e1 e2 e3 e4 (by rw [d3_sw1, hD]; grind)
      show bareL 3 n (R ++ [W ++ [d, e, f], Z ++ [a, b, c], Y ++ [g, h, i]]) (-s) q = _
      rw [this]
      grind
  · obtain ⟨⟨u1, e1⟩, ⟨u2, e2⟩⟩ := m1
    obtain ⟨⟨u3, e3⟩, ⟨u4, e4⟩⟩ := m2
    exact st3a hR hZ hW hY hq ha e1 e2 e3 e4 hD
set_option maxHeartbeats 2000000
theorem d4_sw1 (a b c d e f g h i j k l m n o p : Int) : d4 e f g h a b c d i j k l m n o p = -d4 a b c d e f g h i j k l m n o p := by unfold d4 d3; grind
theorem d4_sw2 (a b c d e f g h i j k l m n o p : Int) : d4 i j k l e f g h a b c d m n o p = -d4 a b c d e f g h i j k l m n o p := by unfold d4 d3; grind
theorem d4_sw3 (a b c d e f g h i j k l m n o p : Int) : d4 m n o p e f g h i j k l a b c d = -d4 a b c d e f g h i j k l m n o p := by unfold d4 d3; grind
theorem mn4 (a b c d e f g h i j k l : Int) : Mn a (a * f - e * b) (a * g - e * c) (a * h - e * d) (a * j - i * b) (a * k - i * c) (a * l - i * d) := by
  refine ⟨⟨d3 a b c e f g i j k, ?_⟩, ⟨d3 a b d e f h i j l, ?_⟩⟩
  · unfold d3; grind
  · unfold d3; grind
theorem st4a {s a b c d e f g h i j k l m n o p : Int} (ha : a ≠ 0) :
    bareL 4 0 [[a, b, c, d], [e, f, g, h], [i, j, k, l], [m, n, o, p]] s 1 = s * d4 a b c d e f g h i j k l m n o p := by
  rw [show [[a, b, c, d], [e, f, g, h], [i, j, k, l], [m, n, o, p]] = ([] : Mat) ++ [a, b, c, d] :: [[e, f, g, h], [i, j, k, l], [m, n, o, p]] from rfl, bare_go (R := []) (r := [a, b, c, d]) (n := 0) rfl (show a ≠ 0 from ha)]
  have one : ∀ x : Int, x.fdiv 1 = x := fun x => Int.fdiv_one x
  show bareL 3 1 ([[a, b, c, d]] ++ [[(a * e - e * a).fdiv 1, (a * f - e * b).fdiv 1, (a * g - e * c).fdiv 1, (a * h - e * d).fdiv 1], [(a * i - i * a).fdiv 1, (a * j - i * b).fdiv 1, (a * k - i * c).fdiv 1, (a * l - i * d).fdiv 1], [(a * m - m * a).fdiv 1, (a * n - m * b).fdiv 1, (a * o - m * c).fdiv 1, (a * p - m * d).fdiv 1]]) s a = _
  simp only [one]
  exact st3 (R := [[a, b, c, d]]) (Z := [a * e - e * a]) (W := [a * i - i * a]) (Y := [a * m - m * a]) rfl rfl rfl rfl ha (mn4 ..) (mn4 ..) (mn4 ..) (el4 ..).symm
theorem bare_sw0 {S : Mat} {k j : Nat} {s q : Int} (hp : piv S 0 = some j) (hj : j ≠ 0) (h0 : piv (swapR S 0 j) 0 = some 0) : bareL (k + 1) 0 S s q = bareL (k + 1) 0 (swapR S 0 j) (-s) q := bare_swap (R := []) rfl hp hj h0
theorem st4 {a b c d e f g h i j k l m n o p : Int} : bareL 4 0 [[a, b, c, d], [e, f, g, h], [i, j, k, l], [m, n, o, p]] 1 1 = d4 a b c d e f g h i j k l m n o p := by
  by_cases ha : a = 0
  · by_cases he : e = 0
    · by_cases hi : i = 0
      · by_cases hm : m = 0
        · have z := bare_none (R := []) (S := [[a, b, c, d], [e, f, g, h], [i, j, k, l], [m, n, o, p]]) (n := 0) (k := 3) (s := 1) (q := 1) rfl (by
            intro r hr
            simp only [List.mem_cons, List.not_mem_nil, or_false] at hr
            rcases hr with rfl | rfl | rfl | rfl <;> assumption)
          rw [show bareL 4 0 [[a, b, c, d], [e, f, g, h], [i, j, k, l], [m, n, o, p]] 1 1 = 0 from z, ha, he, hi, hm]
          unfold d4 d3
          grind
        · rw [bare_sw0 (j := 3) (by unfold piv; simp [List.findIdx?_cons, ha, he, hi, hm]) (by decide) (by unfold piv swapR row; simp [List.findIdx?_cons, hm])]
          show bareL 4 0 [[m, n, o, p], [e, f, g, h], [i, j, k, l], [a, b, c, d]] (-1) 1 = _
          rw [st4a hm, d4_sw3]
          grind
      · rw [bare_sw0 (j := 2) (by unfold piv; simp [List.findIdx?_cons, ha, he, hi]) (by decide) (by unfold piv swapR row; simp [List.findIdx?_cons, hi])]
        show bareL 4 0 [[i, j, k, l], [e, f, g, h], [a, b, c, d], [m, n, o, p]] (-1) 1 = _
        rw [st4a hi, d4_sw2]
        grind
    · rw [bare_sw0 (j := 1) (by unfold piv; simp [List.findIdx?_cons, ha, he]) (by decide) (by unfold piv swapR row; simp [List.findIdx?_cons, he])]
      show bareL 4 0 [[e, f, g, h], [a, b, c, d], [i, j, k, l], [m, n, o, p]] (-1) 1 = _
      rw [st4a he, d4_sw1]
      grind
  · rw [st4a ha]
    grind
def expd : Nat → Mat → Int
  | 0, _ => 1
  | n + 1, M => (List.range (n + 1)).foldl (fun (s : Int) (k : Nat) => s + (1 - 2 * ((k : Int) % 2)) * (row M 0).getD k 0 * expd n (M.tail.map fun r => r.take k ++ r.drop (k + 1))) 0
structure Sq (n : Nat) (M : Mat) : Prop where
  len : M.length = n
  row : ∀ r ∈ M, r.length = n
theorem len1 {α : Type} {l : List α} (h : l.length = 1) : ∃ a, l = [a] := by match l, h with | [a], _ => exact ⟨a, rfl⟩
theorem len2 {α : Type} {l : List α} (h : l.length = 2) : ∃ a b, l = [a, b] := by match l, h with | [a, b], _ => exact ⟨a, b, rfl⟩
theorem len3 {α : Type} {l : List α} (h : l.length = 3) : ∃ a b c, l = [a, b, c] := by match l, h with | [a, b, c], _ => exact ⟨a, b, c, rfl⟩
theorem len4 {α : Type} {l : List α} (h : l.length = 4) : ∃ a b c d, l = [a, b, c, d] := by match l, h with | [a, b, c, d], _ => exact ⟨a, b, c, d, rfl⟩
theorem sq0 {M : Mat} (h : Sq 0 M) : M = [] := List.eq_nil_of_length_eq_zero h.len
theorem sq1 {M : Mat} (h : Sq 1 M) : ∃ a, M = [[a]] := by
  obtain ⟨r, rfl⟩ := len1 h.len
  obtain ⟨a, rfl⟩ := len1 (h.row r (by simp))
  exact ⟨a, rfl⟩
theorem sq2 {M : Mat} (h : Sq 2 M) : ∃ a b c d, M = [[a, b], [c, d]] := by
  obtain ⟨r, t, rfl⟩ := len2 h.len
  obtain ⟨a, b, rfl⟩ := len2 (h.row r (by simp))
  obtain ⟨c, d, rfl⟩ := len2 (h.row t (by simp))
  exact ⟨a, b, c, d, rfl⟩
theorem sq3 {M : Mat} (h : Sq 3 M) : ∃ a b c d e f g i j, M = [[a, b, c], [d, e, f], [g, i, j]] := by
  obtain ⟨r, t, u, rfl⟩ := len3 h.len
  obtain ⟨a, b, c, rfl⟩ := len3 (h.row r (by simp))
  obtain ⟨d, e, f, rfl⟩ := len3 (h.row t (by simp))
  obtain ⟨g, i, j, rfl⟩ := len3 (h.row u (by simp))
  exact ⟨a, b, c, d, e, f, g, i, j, rfl⟩
theorem sq4 {M : Mat} (h : Sq 4 M) : ∃ a b c d e f g i j k l m n o p q, M = [[a, b, c, d], [e, f, g, i], [j, k, l, m], [n, o, p, q]] := by
  obtain ⟨r, t, u, v, rfl⟩ := len4 h.len
  obtain ⟨a, b, c, d, rfl⟩ := len4 (h.row r (by simp))
  obtain ⟨e, f, g, i, rfl⟩ := len4 (h.row t (by simp))
  obtain ⟨j, k, l, m, rfl⟩ := len4 (h.row u (by simp))
  obtain ⟨n, o, p, q, rfl⟩ := len4 (h.row v (by simp))
  exact ⟨a, b, c, d, e, f, g, i, j, k, l, m, n, o, p, q, rfl⟩
theorem expd1 (a : Int) : expd 1 [[a]] = a := by simp [expd, List.range, List.range.loop, row]
theorem expd2 (a b c d : Int) : expd 2 [[a, b], [c, d]] = d2 a b c d := by
  simp [expd, List.range, List.range.loop, row, d2]; grind
theorem expd3 (a b c d e f g h i : Int) : expd 3 [[a, b, c], [d, e, f], [g, h, i]] = d3 a b c d e f g h i := by
  have e : expd 3 [[a, b, c], [d, e, f], [g, h, i]] = 0 + (1 - 2 * ((0 : Int) % 2)) * a * expd 2 [[e, f], [h, i]] + (1 - 2 * ((1 : Int) % 2)) * b * expd 2 [[d, f], [g, i]] + (1 - 2 * ((2 : Int) % 2)) * c * expd 2 [[d, e], [g, h]] := rfl
  rw [e, expd2, expd2, expd2]; unfold d2 d3; grind
theorem expd4 (a b c d e f g h i j k l m n o p : Int) : expd 4 [[a, b, c, d], [e, f, g, h], [i, j, k, l], [m, n, o, p]] = d4 a b c d e f g h i j k l m n o p := by
  have e : expd 4 [[a, b, c, d], [e, f, g, h], [i, j, k, l], [m, n, o, p]] = 0 + (1 - 2 * ((0 : Int) % 2)) * a * expd 3 [[f, g, h], [j, k, l], [n, o, p]] + (1 - 2 * ((1 : Int) % 2)) * b * expd 3 [[e, g, h], [i, k, l], [m, o, p]] + (1 - 2 * ((2 : Int) % 2)) * c * expd 3 [[e, f, h], [i, j, l], [m, n, p]] + (1 - 2 * ((3 : Int) % 2)) * d * expd 3 [[e, f, g], [i, j, k], [m, n, o]] := rfl
  rw [e, expd3, expd3, expd3, expd3]; unfold d4; grind
def bare (M : Mat) : Int := bareL M.length 0 M 1 1
theorem bare_expd {n : Nat} (hn : n ≤ 4) {M : Mat} (h : Sq n M) : bare M = expd n M := by
  unfold bare
  rw [h.len]
  match n, hn, h with
  | 0, _, h => rw [sq0 h]; rfl
  | 1, _, h =>
    obtain ⟨a, rfl⟩ := sq1 h
    rw [expd1]
    have := st1 (R := []) (Z := []) (n := 0) rfl rfl 1 1 a
    simpa using this
  | 2, _, h =>
    obtain ⟨a, b, c, d, rfl⟩ := sq2 h
    rw [expd2]
    have := st2 (R := []) (Z := []) (W := []) (n := 0) rfl rfl rfl (s := 1) (q := 1) (a := a) (b := b) (c := c) (d := d) (D := d2 a b c d) (by decide) (by unfold d2; grind)
    simpa using this
  | 3, _, h =>
    obtain ⟨a, b, c, d, e, f, g, i, j, rfl⟩ := sq3 h
    rw [expd3]
    have m : ∀ a b c d e f : Int, Mn 1 a b c d e f := fun a b c d e f => ⟨⟨_, (Int.one_mul _).symm⟩, ⟨_, (Int.one_mul _).symm⟩⟩
    have := st3 (R := []) (Z := []) (W := []) (Y := []) (n := 0) rfl rfl rfl rfl (s := 1) (q := 1) (a := a) (b := b) (c := c) (d := d) (e := e) (f := f) (g := g) (h := i) (i := j) (D := d3 a b c d e f g i j) (by decide) (m ..) (m ..) (m ..) (by grind)
    simpa using this
  | 4, _, h =>
    obtain ⟨a, b, c, d, e, f, g, i, j, k, l, m, n, o, p, q, rfl⟩ := sq4 h
    rw [expd4]
    exact st4
/-- the second row first -/
theorem expd_swap {n : Nat} (hn : n ≤ 4) {r t : List Int} {S : Mat} (h : Sq n (r :: t :: S)) : expd n (t :: r :: S) = 0 - expd n (r :: t :: S) := by
  match n, hn, h with
  | 0, _, h => exact absurd h.len (by simp)
  | 1, _, h => exact absurd h.len (by simp)
  | 2, _, h =>
    obtain ⟨a, b, c, d, e⟩ := sq2 h
    simp only [List.cons.injEq] at e
    obtain ⟨rfl, rfl, rfl⟩ := e
    rw [expd2, expd2]; unfold d2; grind
  | 3, _, h =>
    obtain ⟨a, b, c, d, e, f, g, i, j, e⟩ := sq3 h
    simp only [List.cons.injEq] at e
    obtain ⟨rfl, rfl, rfl⟩ := e
    rw [expd3, expd3, d3_sw1]; grind
  | 4, _, h =>
    obtain ⟨a, b, c, d, e, f, g, i, j, k, l, m, n, o, p, q, e⟩ := sq4 h
    simp only [List.cons.injEq] at e
    obtain ⟨rfl, rfl, rfl⟩ := e
    rw [expd4, expd4, d4_sw1]; grind
def upr (n : Nat) (M : Mat) : Mat := (List.range n).map fun j => M.map fun r => r.getD j 0
theorem expd_upr {n : Nat} (hn : n ≤ 4) {M : Mat} (h : Sq n M) : expd n (upr n M) = expd n M := by
  match n, hn, h with
  | 0, _, h => rfl
  | 1, _, h =>
    obtain ⟨a, rfl⟩ := sq1 h
    rfl
  | 2, _, h =>
    obtain ⟨a, b, c, d, rfl⟩ := sq2 h
    show expd 2 [[a, c], [b, d]] = _
    rw [expd2, expd2]; unfold d2; grind
  | 3, _, h =>
    obtain ⟨a, b, c, d, e, f, g, i, j, rfl⟩ := sq3 h
    show expd 3 [[a, d, g], [b, e, i], [c, f, j]] = _
    rw [expd3, expd3]; unfold d3; grind
  | 4, _, h =>
    obtain ⟨a, b, c, d, e, f, g, i, j, k, l, m, n, o, p, q, rfl⟩ := sq4 h
    show expd 4 [[a, e, j, n], [b, f, k, o], [c, g, l, p], [d, i, m, q]] = _
    rw [expd4, expd4]; unfold d4 d3; grind
theorem expd_scale {n : Nat} (hn : n ≤ 4) {r : List Int} {S : Mat} (h : Sq n (r :: S)) (t : Int) : expd n (r.map (t * ·) :: S) = t * expd n (r :: S) := by
  match n, hn, h with
  | 0, _, h => exact absurd h.len (by simp)
  | 1, _, h =>
    obtain ⟨a, e⟩ := sq1 h
    simp only [List.cons.injEq] at e
    obtain ⟨rfl, rfl⟩ := e
    show expd 1 [[t * a]] = _
    rw [expd1, expd1]
  | 2, _, h =>
    obtain ⟨a, b, c, d, e⟩ := sq2 h
    simp only [List.cons.injEq] at e
    obtain ⟨rfl, rfl⟩ := e
    show expd 2 [[t * a, t * b], [c, d]] = _
    rw [expd2, expd2]; unfold d2; grind
  | 3, _, h =>
    obtain ⟨a, b, c, d, e, f, g, i, j, e⟩ := sq3 h
    simp only [List.cons.injEq] at e
    obtain ⟨rfl, rfl⟩ := e
    show expd 3 ([t * a, t * b, t * c] :: _) = _
    rw [expd3, expd3]; unfold d3; grind
  | 4, _, h =>
    obtain ⟨a, b, c, d, e, f, g, i, j, k, l, m, n, o, p, q, e⟩ := sq4 h
    simp only [List.cons.injEq] at e
    obtain ⟨rfl, rfl⟩ := e
    show expd 4 ([t * a, t * b, t * c, t * d] :: _) = _
    rw [expd4, expd4]; unfold d4 d3; grind


def top (i : Nat) : Stmt := PySem.Challenge.pw_twodivisions_k50_determinants.main.body.getD i (.Pass ⟨0, 0, 0, 0⟩)
abbrev s_x_InvalidRows : Stmt := (inClass (top 1) 0)
abbrev n_x_InvalidRows : List Str := ["self", "value"]
theorem sc_x_InvalidRows : FnScope n_x_InvalidRows ["self", "value"] (defScope s_x_InvalidRows) := ⟨rfl, rfl, rfl, by decide +kernel, rfl, by decide +kernel, by decide +kernel⟩
abbrev s_is_integer : Stmt := (top 3)
abbrev n_is_integer : List Str := ["value"]
theorem sc_is_integer : FnScope n_is_integer ["value"] (defScope s_is_integer) := ⟨rfl, rfl, rfl, by decide +kernel, rfl, by decide +kernel, by decide +kernel⟩
abbrev s_is_row_like : Stmt := (top 4)
abbrev n_is_row_like : List Str := ["value"]
theorem sc_is_row_like : FnScope n_is_row_like ["value"] (defScope s_is_row_like) := ⟨rfl, rfl, rfl, by decide +kernel, rfl, by decide +kernel, by decide +kernel⟩
abbrev s_is_square : Stmt := (top 6)
abbrev n_is_square : List Str := ["table", "row", "one"]
theorem sc_is_square : FnScope n_is_square ["table"] (defScope s_is_square) := ⟨rfl, rfl, rfl, by decide +kernel, rfl, by decide +kernel, by decide +kernel⟩
abbrev s_pivot_at : Stmt := (top 7)
abbrev n_pivot_at : List Str := ["rows", "at", "place"]
theorem sc_pivot_at : FnScope n_pivot_at ["rows", "at"] (defScope s_pivot_at) := ⟨rfl, rfl, rfl, by decide +kernel, rfl, by decide +kernel, by decide +kernel⟩
abbrev s_cleared_row : Stmt := (top 8)
abbrev n_cleared_row : List Str := ["row", "by", "at", "before", "one", "other"]
theorem sc_cleared_row : FnScope n_cleared_row ["row", "by", "at", "before"] (defScope s_cleared_row) := ⟨rfl, rfl, rfl, by decide +kernel, rfl, by decide +kernel, by decide +kernel⟩
abbrev s_determinant : Stmt := (top 9)
abbrev n_determinant : List Str := ["table", "rows", "sign", "before", "at", "place", "below", "row"]
theorem sc_determinant : FnScope n_determinant ["table"] (defScope s_determinant) := ⟨rfl, rfl, rfl, by decide +kernel, rfl, by decide +kernel, by decide +kernel⟩
abbrev s_l_pool : Stmt := (top 11)
abbrev n_l_pool : List Str := ["_law_script", "_law_k", "_law_cell", "_law_seed"]
theorem sc_l_pool : FnScope n_l_pool ["_law_script", "_law_k"] (defScope s_l_pool) := ⟨rfl, rfl, rfl, by decide +kernel, rfl, by decide +kernel, by decide +kernel⟩
abbrev s_l_draw : Stmt := (top 12)
abbrev n_l_draw : List Str := ["_law_pool_here", "_law_many", "_law_digit"]
theorem sc_l_draw : FnScope n_l_draw ["_law_pool_here", "_law_many"] (defScope s_l_draw) := ⟨rfl, rfl, rfl, by decide +kernel, rfl, by decide +kernel, by decide +kernel⟩
abbrev s_l_expanded : Stmt := (top 14)
abbrev n_l_expanded : List Str := ["_law_table_here", "_law_found", "_law_place", "_law_rest", "_law_row"]
theorem sc_l_expanded : FnScope n_l_expanded ["_law_table_here"] (defScope s_l_expanded) := ⟨rfl, rfl, rfl, by decide +kernel, rfl, by decide +kernel, by decide +kernel⟩
abbrev s_l_table : Stmt := (top 15)
abbrev n_l_table : List Str := ["_law_pool_here", "_law_many", "_law_wide", "_law_most", "_law_table_here", "_law_times", "_law_row", "_law_column", "_law_one"]
theorem sc_l_table : FnScope n_l_table ["_law_pool_here"] (defScope s_l_table) := ⟨rfl, rfl, rfl, by decide +kernel, rfl, by decide +kernel, by decide +kernel⟩
abbrev s_l_refused : Stmt := (top 16)
abbrev n_l_refused : List Str := ["_law_value", "e"]
theorem sc_l_refused : FnScope n_l_refused ["_law_value"] (defScope s_l_refused) := ⟨rfl, rfl, rfl, by decide +kernel, rfl, by decide +kernel, by decide +kernel⟩
abbrev s_l_integer : Stmt := (top 17)
abbrev n_l_integer : List Str := ["_law_value", "_law_due"]
theorem sc_l_integer : FnScope n_l_integer ["_law_value", "_law_due"] (defScope s_l_integer) := ⟨rfl, rfl, rfl, by decide +kernel, rfl, by decide +kernel, by decide +kernel⟩
abbrev s_law : Stmt := (top 18)
abbrev n_law : List Str := ["_law_script", "_law_k", "_law_pool_here", "_law_table_here", "_law_handed", "_law_due", "_law_swapped", "_law_upright", "_law_times", "_law_wrong", "_law_row", "_law_column", "_law_odd", "_law_one"]
theorem sc_law : FnScope n_law ["_law_script"] (defScope s_law) := ⟨rfl, rfl, rfl, by decide +kernel, rfl, by decide +kernel, by decide +kernel⟩
structure Is (K : PySem.W.Frag) (mg : Str → Option Value) (x : Str) (st : Stmt) (ps : List Str) (f : Addr) (fd : FuncData) : Prop where
  F : Fun K x x st f fd
  mgf : mg x = some (.ref f)
  b : Binds K fd ps []
theorem is_mk {K : PySem.W.Frag} {h : Heap} {mg : Str → Option Value} {f : Addr} {x : Str} {st : Stmt} {ps : List Str} (X : K.In h) (G : h.Ns mainGlobals mg) {od an : Option Addr} {sl : Array (Option Value)} {oc kV dc pm cd ct : Value}
    (a : PySem.W.nsIn K mainGlobals x = some (some (.ref f))) (l : K.lookup f = some ⟨oc, od, .func (PySem.W.fnOf x x (defArgs st) (defBody st) (defScope st) .none kV dc pm an cd ct), sl⟩) (c : PySem.W.codeIn K cd x = true) (k : PySem.W.keepIn K (.ref f) = true)
    (b : ∀ (kV doc pm : Value) (an : Option Addr) (cdv ct : Value) (us : List Value), us.length = ps.length → bindArgs (PySem.W.fnOf x x (defArgs st) (defBody st) (defScope st) .none kV doc pm an cdv ct) ⟨us, []⟩ = pure (ps.zip us)) : ∃ (f : Addr) (fd : FuncData), Is K mg x st ps f fd :=
  ⟨f, _, fun_mk (st := st) l c k, PySem.W.mg_of X G a, (fun_mk (st := st) l c k).binds b⟩
theorem tup_mk {K : PySem.W.Frag} {h : Heap} {mg : Str → Option Value} {f : Addr} {x : Str} {xs : List V} {o : Obj} {its : Array Value} {n : Nat} (X : K.In h) (G : h.Ns mainGlobals mg)
    (a : PySem.W.nsIn K mainGlobals x = some (some (.ref f))) (l : K.lookup f = some o) (hx : o.cls = .type "tuple") (y : o.data = .seq its n) (z : its.size ≤ sizeLine) (v : its.toList.map absV = xs.map some) : ∃ a : Addr, mg x = some (.ref a) ∧ ∀ H : Hp, SqT K H a xs :=
  ⟨f, PySem.W.mg_of X G a, fun _ => .inr ⟨o, its, n, l, hx, y, z, vals_abs v⟩⟩
structure Txt (K : PySem.W.Frag) (mg : Str → Option Value) where
  a_is_integer : Addr
  d_is_integer : FuncData
  is_integer : Is K mg "is_integer" s_is_integer ["value"] a_is_integer d_is_integer
  a_is_row_like : Addr
  d_is_row_like : FuncData
  is_row_like : Is K mg "is_row_like" s_is_row_like ["value"] a_is_row_like d_is_row_like
  a_is_square : Addr
  d_is_square : FuncData
  is_square : Is K mg "is_square" s_is_square ["table"] a_is_square d_is_square
  a_pivot_at : Addr
  d_pivot_at : FuncData
  pivot_at : Is K mg "pivot_at" s_pivot_at ["rows", "at"] a_pivot_at d_pivot_at
  a_cleared_row : Addr
  d_cleared_row : FuncData
  cleared_row : Is K mg "cleared_row" s_cleared_row ["row", "by", "at", "before"] a_cleared_row d_cleared_row
  a_determinant : Addr
  d_determinant : FuncData
  determinant : Is K mg "determinant" s_determinant ["table"] a_determinant d_determinant
  a_l_pool : Addr
  d_l_pool : FuncData
  l_pool : Is K mg "_law_pool" s_l_pool ["_law_script", "_law_k"] a_l_pool d_l_pool
  a_l_draw : Addr
  d_l_draw : FuncData
  l_draw : Is K mg "_law_draw" s_l_draw ["_law_pool_here", "_law_many"] a_l_draw d_l_draw
  a_l_expanded : Addr
  d_l_expanded : FuncData
  l_expanded : Is K mg "_law_expanded" s_l_expanded ["_law_table_here"] a_l_expanded d_l_expanded
  a_l_table : Addr
  d_l_table : FuncData
  l_table : Is K mg "_law_table" s_l_table ["_law_pool_here"] a_l_table d_l_table
  a_l_refused : Addr
  d_l_refused : FuncData
  l_refused : Is K mg "_law_refused" s_l_refused ["_law_value"] a_l_refused d_l_refused
  a_l_integer : Addr
  d_l_integer : FuncData
  l_integer : Is K mg "_law_integer" s_l_integer ["_law_value", "_law_due"] a_l_integer d_l_integer
  g_len : mg "len" = none
  g_int : mg "int" = none
  g_range : mg "range" = none
  g_min : mg "min" = none
  g_max : mg "max" = none
  g_isinstance : mg "isinstance" = none
  g_bool : mg "bool" = none
  g_list : mg "list" = none
  g_tuple : mg "tuple" = none
  g_all : mg "all" = none
  g_zip : mg "zip" = none
  C_InvalidRows : Addr
  a_x_InvalidRows : Addr
  d_x_InvalidRows : FuncData
  x_InvalidRows : Exc1 K mg "InvalidRows" "InvalidRows.__init__" s_x_InvalidRows "value" ["self", "value"] C_InvalidRows a_x_InvalidRows d_x_InvalidRows
  g_ValueError : mg "ValueError" = none
  veI : PySem.W.findCls K (.type "ValueError") (.type "type") "__init__" = some (.val (.builtin "ValueError.__init__"))
section
variable {P : Program} {w : World} {K : PySem.W.Frag} {mg : Str → Option Value} {base : Heap}
theorem ok_l_pool (T : Txt K mg) : FnOk P w K mg base CX0 1 T.a_l_pool T.d_l_pool ["_law_script", "_law_k"] (spPool K) := by
  refine T.l_pool.F.ok sc_l_pool (fun vs H Q E h => ?_) (fun cdv A outer s H vs Q E hr h => ?_)
  · obtain ⟨a, ns, k, rfl, _⟩ := h
    rfl
  · obtain ⟨a, ns, k, rfl, hS, hk, q⟩ := h
    refine ⟨_, (pss_cons (ps_set (i := 2) sc_l_pool.nd rfl (Or.inl rfl) pe_int)
      (pss_cons (ps_if (pt_cmpR op_lt (pv 1) (pe_callB (id := "len") (k_len (K := K) rfl) (by rfl) T.g_len (by decide +kernel) (pa_cons (pv 0) pa_nil)) (nomark _)) (pss_one (ps_set (i := 2) sc_l_pool.nd rfl (Or.inl rfl) (pe_ix (kix_list (K := K) rfl) (pv 0) (pv 1) (fun _ _ => rfl)))) pss_nil)
      (pss_cons (ps_set (i := 3) sc_l_pool.nd rfl (Or.inl rfl) (pe_op op_mod (pe_op op_pow (pe_op op_add (pe_op op_add (pe_op op_mod (pe_callTy (T := "int") call_int1 (by rfl) T.g_int (by decide +kernel) (pa_cons (pv 2) pa_nil)) pe_int) (pe_op op_mul (pe_op op_mul pe_int (pv 1)) (pv 1))) pe_int) pe_int) pe_int))
      (pss_cons (ps_if (pt_cmpR op_lt (pv 2) (pe_op op_pow pe_int pe_int) (nomark _)) (pss_one (ps_set (i := 2) sc_l_pool.nd rfl (Or.inl rfl) pe_int)) pss_nil)
      (pss_one (ps_ret (pe_lst (pa_cons (pv 2) (pa_cons (pv 3) pa_nil))))))))), ?_⟩
    refine ⟨_, rfl, _, rfl, a, _, rfl, .inl hS, _, _, rfl, rfl, _, rfl, ?_⟩
    rw [List.length_map]
    refine ite2 (fun hc => ?_) (fun hc => ?_)
    · have hlt : k < ns.length := by
        have := of_decide_eq_true hc
        omega
      refine ⟨_, rfl, _, rfl, a, _, _, _, rfl, rfl, hS, atI_map hlt, ?_⟩
      generalize ns.getD k 0 = c
      refine ⟨_, rfl, .inl ⟨_, rfl, _, _, rfl, rfl, (by show (0 : Int) < 2147483629; decide), ?_⟩⟩
      refine ⟨_, rfl, _, _, rfl, rfl, .inl ⟨by decide, by decide⟩, _, rfl, _, _, rfl, rfl, .inr ⟨by omega, by omega⟩, _, _, rfl, rfl, _, _, rfl, rfl, ?_⟩
      have hc0 : 0 ≤ c % 2147483629 := Int.emod_nonneg _ (by decide)
      have hc1 : c % 2147483629 < 2147483629 := Int.emod_lt_of_pos _ (by decide)
      have hk2 : 7919 * (k : Int) * (k : Int) ≤ 7919 * 64 * 64 := Int.mul_le_mul (by omega) (by omega) (by omega) (by omega)
      have hk3 : 0 ≤ 7919 * (k : Int) * (k : Int) := Int.mul_nonneg (by omega) (by omega)
      refine ⟨_, _, rfl, rfl, ⟨by decide, by decide, by omega⟩, _, _, rfl, rfl, (by show (0 : Int) < 2147483647; decide), ?_⟩
      refine ⟨_, rfl, _, _, rfl, rfl, ⟨by decide, by decide, by decide⟩, _, _, rfl, rfl, _, rfl, ?_⟩
      refine ite2 (fun _ => ?_) (fun _ => ?_)
      · refine ⟨_, rfl, _, rfl, (by show 2 ≤ sizeLine; decide), fun p hp => ?_⟩
        exact q p _ hp (fun b o e => by rw [upd_ne (ne_of_none e hp)]; exact e) Pool.putM
      · refine ⟨_, rfl, _, rfl, (by show 2 ≤ sizeLine; decide), fun p hp => ?_⟩
        exact q p _ hp (fun b o e => by rw [upd_ne (ne_of_none e hp)]; exact e) Pool.putM
    · refine ⟨_, rfl, .inl ⟨_, rfl, _, _, rfl, rfl, (by show (0 : Int) < 2147483629; decide), ?_⟩⟩
      refine ⟨_, rfl, _, _, rfl, rfl, .inl ⟨by decide, by decide⟩, _, rfl, _, _, rfl, rfl, .inr ⟨by omega, by omega⟩, _, _, rfl, rfl, _, _, rfl, rfl, ?_⟩
      have hk2 : 7919 * (k : Int) * (k : Int) ≤ 7919 * 64 * 64 := Int.mul_le_mul (by omega) (by omega) (by omega) (by omega)
      have hk3 : 0 ≤ 7919 * (k : Int) * (k : Int) := Int.mul_nonneg (by omega) (by omega)
      refine ⟨_, _, rfl, rfl, ⟨by decide, by decide, by omega⟩, _, _, rfl, rfl, (by show (0 : Int) < 2147483647; decide), ?_⟩
      refine ⟨_, rfl, _, _, rfl, rfl, ⟨by decide, by decide, by decide⟩, _, _, rfl, rfl, _, rfl, ?_⟩
      refine ite2 (fun _ => ?_) (fun _ => ?_)
      · refine ⟨_, rfl, _, rfl, (by show 2 ≤ sizeLine; decide), fun p hp => ?_⟩
        exact q p _ hp (fun b o e => by rw [upd_ne (ne_of_none e hp)]; exact e) Pool.putM
      · refine ⟨_, rfl, _, rfl, (by show 2 ≤ sizeLine; decide), fun p hp => ?_⟩
        exact q p _ hp (fun b o e => by rw [upd_ne (ne_of_none e hp)]; exact e) Pool.putM
theorem ok_l_draw (T : Txt K mg) : FnOk P w K mg base CX0 1 T.a_l_draw T.d_l_draw ["_law_pool_here", "_law_many"] spDraw := by
  refine T.l_draw.F.ok sc_l_draw (fun vs H Q E h => ?_) (fun cdv A outer s H vs Q E hr h => ?_)
  · obtain ⟨p, m, rfl, _⟩ := h
    rfl
  · obtain ⟨p, m, rfl, ⟨c, s0, hp, h0, h1⟩, m0, m1, q⟩ := h
    refine ⟨_, (pss_cons (ps_if (pt_cmpR op_gt (pe_ix (kix_list (K := K) rfl) (pv 0) pe_int (fun _ _ => rfl)) pe_int (nomark _)) (pss_cons (ps_set (i := 2) sc_l_draw.nd rfl (Or.inl rfl) (pe_op op_mod (pe_callTy (T := "int") call_int1 (by rfl) T.g_int (by decide +kernel) (pa_cons (pe_ix (kix_list (K := K) rfl) (pv 0) pe_int (fun _ _ => rfl)) pa_nil)) (pv 1)))
      (pss_cons (ps_asg (pe_op op_fdivW (pe_ix ix_list (pv 0) pe_int (fun _ _ => rfl)) (pv 1)) (pg_sub (pv 0) pe_int set_list))
      (pss_one (ps_ret (pv 2))))) pss_nil)
      (pss_cons (ps_asg (pe_op op_mod (pe_callTy (T := "int") call_int1 (by rfl) T.g_int (by decide +kernel) (pa_cons (pe_op op_add (pe_op op_mul (pe_ix (kix_list (K := K) rfl) (pv 0) pe_int (fun _ _ => rfl)) pe_int) pe_int) pa_nil)) pe_int) (pg_sub (pv 0) pe_int set_list))
      (pss_one (ps_ret (pe_op op_mod (pe_op op_fdiv (pe_op op_mod (pe_callTy (T := "int") call_int1 (by rfl) T.g_int (by decide +kernel) (pa_cons (pe_op op_mul (pe_ix (kix_list (K := K) rfl) (pv 0) pe_int (fun _ _ => rfl)) (pe_ix (kix_list (K := K) rfl) (pv 0) pe_int (fun _ _ => rfl))) pa_nil)) pe_int) pe_int) (pv 1)))))), ?_⟩
    have hm : CDivW c m := by
      refine wide_div m0 (b := 100) ?_ (by decide) (by decide)
      omega
    refine ⟨_, rfl, p, _, _, _, rfl, rfl, SqL.of hp, rfl, _, _, rfl, rfl, _, rfl, ?_⟩
    refine ite2 (fun _ => ?_) (fun _ => ?_)
    · refine ⟨_, rfl, p, _, _, _, rfl, rfl, SqL.of hp, rfl, .inl ⟨_, rfl, _, rfl, _, _, rfl, rfl, m0, ?_⟩⟩
      refine ⟨_, rfl, p, _, _, _, rfl, rfl, SqL.of hp, rfl, _, rfl, _, _, rfl, rfl, hm, ?_⟩
      refine ⟨_, rfl, p, _, _, 0, rfl, rfl, hp, rfl, ?_⟩
      refine ⟨_, rfl, ?_⟩
      exact q _ _ (Int.emod_nonneg _ (by omega)) (Int.emod_lt_of_pos _ m0) ⟨Kp.put Kp.refl, Pool.put h0 h1⟩
    · refine ⟨_, rfl, p, _, _, _, rfl, rfl, SqL.of hp, rfl, _, _, rfl, rfl, .inr ⟨by decide, by decide⟩, _, _, rfl, rfl, .inl ⟨_, rfl, _, _, rfl, rfl, (by show (0 : Int) < 2147483647; decide), ?_⟩⟩
      refine ⟨_, rfl, p, _, _, 1, rfl, rfl, hp, rfl, ?_⟩
      refine ⟨_, rfl, p, _, _, _, rfl, rfl, SqL.of upd_same, rfl, _, rfl, p, _, _, _, rfl, rfl, SqL.of upd_same, rfl, _, _, rfl, rfl, .inl ⟨by omega, by omega⟩, .inl ⟨_, rfl, _, _, rfl, rfl, (by show (0 : Int) < 2147483629; decide), ?_⟩⟩
      refine ⟨_, _, rfl, rfl, ⟨by decide, by decide⟩, _, rfl, _, _, rfl, rfl, m0, ?_⟩
      exact q _ _ (Int.emod_nonneg _ (by omega)) (Int.emod_lt_of_pos _ m0) ⟨Kp.put Kp.refl, Pool.putM⟩

theorem ok_x_InvalidRows (T : Txt K mg) : FnOk P w K mg base CX0 1 T.a_x_InvalidRows T.d_x_InvalidRows ["self", "value"] (spExc "value" T.C_InvalidRows) := by
  refine T.x_InvalidRows.F.ok sc_x_InvalidRows (fun vs H Q E h => ?_) (fun cdv A outer s H vs Q E hr h => ?_)
  · obtain ⟨a, v, rfl, _⟩ := h
    rfl
  · obtain ⟨a, v, rfl, ha, q⟩ := h
    refine ⟨_, pss_cons (ps_expr (pe_veinit (pl := _) (by rfl) T.g_ValueError T.veI (pa_cons (pv 0) (pa_cons pe_str pa_nil)))) (pss_one (ps_ost (pv 0) (pv 1))), ?_⟩
    refine ⟨_, rfl, a, _, _, rfl, (by decide), T.x_InvalidRows.oex, ha, ?_⟩
    exact ⟨_, rfl, _, rfl, a, _, rfl, T.x_InvalidRows.oex, T.x_InvalidRows.nf, .inl ⟨ha, q⟩⟩
def spIsIntD (K : PySem.W.Frag) : Sp := fun vs H Q _ => ∃ (v : V) (d : PyData), vs = [v] ∧ Dp K H v d ∧ Q (.bl (isI d)) H
theorem ok_is_integer (T : Txt K mg) : FnOk P w K mg base CX0 1 T.a_is_integer T.d_is_integer ["value"] (spIsIntD K) := by
  refine T.is_integer.F.ok sc_is_integer (fun vs H Q E h => ?_) (fun cdv A outer s H vs Q E hr h => ?_)
  · obtain ⟨v, d, rfl, _⟩ := h
    rfl
  · obtain ⟨v, d, rfl, hd, q⟩ := h
    refine ⟨_, (pss_one (ps_ret (pe_and (pe_callB (id := "isinstance") (k_isi (K := K) rfl) (by rfl) T.g_isinstance (by decide +kernel) (pa_cons (pv 0) (pa_cons (pe_bltn (v := .ty "int") (by rfl) T.g_int (by decide +kernel) rfl) pa_nil))) (pe_one (pe_not (pe_callB (id := "isinstance") (k_isi (K := K) rfl) (by rfl) T.g_isinstance (by decide +kernel) (pa_cons (pv 0) (pa_cons (pe_bltn (v := .ty "bool") (by rfl) T.g_bool (by decide +kernel) rfl) pa_nil)))))))), ?_⟩
    refine ⟨_, rfl, _, _, _, _, isIB d, rfl, .ty _, dp_ty hd, kitI hd, _, rfl, ?_⟩
    cases hb : isIB d with
    | true =>
      refine ⟨_, rfl, _, _, _, _, isB d, rfl, .ty _, dp_ty hd, kitBl hd, _, rfl, ?_⟩
      have e : isI d = !isB d := by cases d <;> first | rfl | cases hb
      rw [e] at q
      exact q
    | false =>
      have e : isI d = false := by cases d <;> first | rfl | cases hb
      rw [e] at q
      exact q

def spRowLike (K : PySem.W.Frag) : Sp := fun vs H Q _ => ∃ (v : V) (d : PyData), vs = [v] ∧ Dp K H v d ∧ ∀ H', Same H H' → Q (.bl (isSeq d)) H'
theorem ok_is_row_like (T : Txt K mg) : FnOk P w K mg base CX0 1 T.a_is_row_like T.d_is_row_like ["value"] (spRowLike K) := by
  refine T.is_row_like.F.ok sc_is_row_like (fun vs H Q E h => ?_) (fun cdv A outer s H vs Q E hr h => ?_)
  · obtain ⟨v, d, rfl, _⟩ := h
    rfl
  · obtain ⟨v, d, rfl, hd, q⟩ := h
    refine ⟨_, (pss_one (ps_ret (pe_callB (id := "isinstance") (k_isiT (K := K) rfl) (by rfl) T.g_isinstance (by decide +kernel) (pa_cons (pv 0) (pa_cons (pe_tup (pa_cons (pe_bltn (v := .ty "list") (by rfl) T.g_list (by decide +kernel) rfl) (pa_cons (pe_bltn (v := .ty "tuple") (by rfl) T.g_tuple (by decide +kernel) rfl) pa_nil))) pa_nil))))), ?_⟩
    refine ⟨_, rfl, (by show 2 ≤ sizeLine; decide), fun t ht => ?_⟩
    have s1 := same_new (o := .tup [.ty "list", .ty "tuple"]) (Same.refl H) ht
    exact ⟨_, t, _, _, _, isSeq d, rfl, upd_same, .cons (.ty _) (.cons (.ty _) .nil), dp_ty (dp_same s1 hd), kitSeq hd, q _ s1⟩

def rowOk (n : Nat) : PyData → Bool
  | .list xs => (xs.length == n) && xs.all isI
  | .tuple xs => (xs.length == n) && xs.all isI
  | _ => false
def sqr : PyData → Bool
  | .list rs => rs.all (rowOk rs.length)
  | .tuple rs => rs.all (rowOk rs.length)
  | _ => false
theorem all_map {α : Type} {f : α → Bool} : ∀ {ys : List V} {ds : List α}, ys.length = ds.length → (∀ (i : Nat) (y : V), ys[i]? = some y → ∃ d, ds[i]? = some d ∧ y = V.bl (f d)) → ys = (ds.map f).map V.bl
  | [], [], _, _ => rfl
  | [], _ :: _, h, _ => by simp at h
  | _ :: _, [], h, _ => by simp at h
  | y :: ys, d :: ds, hl, h => by
    obtain ⟨d', e1, e2⟩ := h 0 y rfl
    have e3 : d = d' := by simpa using e1
    rw [List.map_cons, List.map_cons, e2, ← e3, ← all_map (ys := ys) (ds := ds) (by simpa using hl) fun i z e => by
      obtain ⟨d2, h1, h2⟩ := h (i + 1) z (by simpa using e)
      exact ⟨d2, by simpa using h1, h2⟩]
def spSquare (K : PySem.W.Frag) : Sp := fun vs H Q _ => ∃ (v : V) (d : PyData), vs = [v] ∧ Dp K H v d ∧ (∀ xs, d = .list xs ∨ d = .tuple xs → xs.length ≤ 100 ∧ ∀ r ∈ xs, ∀ zs, r = .list zs ∨ r = .tuple zs → zs.length ≤ 100) ∧ ∀ H', Same H H' → Q (.bl (sqr d)) H'
/-- the two comprehensions, over a source told by its walk -/
theorem ok_is_square (T : Txt K mg) : FnOk P w K mg base CX0 2 T.a_is_square T.d_is_square ["table"] (spSquare K) := by
  refine T.is_square.F.ok sc_is_square (fun vs H Q E h => ?_) (fun cdv A outer s H vs Q E hr h => ?_)
  · obtain ⟨v, d, rfl, _⟩ := h
    rfl
  · obtain ⟨v, d, rfl, hd, hsz, q⟩ := h
    refine ⟨_, (pss_cons (ps_if (pt_not (pt_val (pe_call (ok_is_row_like T) (hr.mono (by decide)) (by rfl) T.is_row_like.mgf T.is_row_like.F.kp T.is_row_like.b .nil pass0 (pa_cons (pv 0) pa_nil)))) (pss_one (ps_ret pe_bl)) pss_nil)
      (pss_one (ps_ret (pe_callB (id := "all") (k_all (K := K) rfl rfl) (by rfl) T.g_all (by decide +kernel) (pa_cons (pe_lc (own := [("row", 1)]) (by rfl) sc_is_square.nd (kpi_seq (K := K) rfl (pv 0)) (blkOk_by (own := [("row", 1)]) (N := n_is_square) (sc := defScope s_is_square) (by decide +kernel)) (fun _ _ _ _ _ => by exact (pg_name (i := 1) sc_is_square.nd rfl (Or.inl rfl))) (fun _ _ _ _ _ => by exact pts_nil) (fun _ _ _ _ _ => by exact (pe_and (pe_call (ok_is_row_like T) (hr.mono (by decide)) (by rfl) T.is_row_like.mgf T.is_row_like.F.kp T.is_row_like.b .nil pass0 (pa_cons (pv 1) pa_nil)) (pe_and (pe_cmpR op_eq (pe_callB (id := "len") (k_len (K := K) rfl) (by rfl) T.g_len (by decide +kernel) (pa_cons (pv 1) pa_nil)) (pe_callB (id := "len") (k_len (K := K) rfl) (by rfl) T.g_len (by decide +kernel) (pa_cons (pv 0) pa_nil)) (nomark _)) (pe_one (pe_callB (id := "all") (k_all (K := K) rfl rfl) (by rfl) T.g_all (by decide +kernel) (pa_cons (pe_lc (own := [("one", 2)]) (by rfl) sc_is_square.nd (by exact (kpi_seq (K := K) rfl (pv 1))) (blkOk_by (own := [("one", 2)]) (N := n_is_square) (sc := { kind := .function, names := [(".0", .local), ("row", .local), ("is_row_like", .globalImplicit), ("len", .globalImplicit), ("all", .globalImplicit), ("table", .cell)], isGenerator := false, isCoroutine := false, more := [] }) (by decide +kernel)) (fun _ _ _ _ _ => by exact (pg_name (i := 2) sc_is_square.nd rfl (Or.inl rfl))) (fun _ _ _ _ _ => by exact pts_nil) (fun _ _ _ _ _ => by exact (pe_call (ok_is_integer T) (hr.mono (by decide)) (by rfl) T.is_integer.mgf T.is_integer.F.kp T.is_integer.b .nil pass0 (pa_cons (pv 2) pa_nil)))) pa_nil))))))) pa_nil))))), ?_⟩
    refine ⟨_, rfl, v, d, rfl, hd, fun H1 s1 => ⟨_, rfl, ?_⟩⟩
    cases hq : isSeq d with
    | false =>
      have e : sqr d = false := by cases d <;> first | rfl | cases hq
      rw [e] at q
      exact q H1 s1
    | true =>
      obtain ⟨a, xs, ds, rfl, hds, hsq, hdd⟩ := seq_src hd hq
      have hds1 := dpAll_same s1 hds
      have hsq1 := sq_same s1 hsq
      have hlen := dpAll_len hds
      obtain ⟨hsz1, hsz2⟩ := hsz ds hdd
      have esq : sqr d = ds.all (rowOk ds.length) := by rcases hdd with e | e <;> rw [e] <;> rfl
      rw [esq] at q
      obtain ⟨J, hJ, wk⟩ := seq_it hsq1
      refine ⟨_, rfl, a, rfl, J, hJ, fun L hL => ?_⟩
      refine lc_same wk hL (by omega) (fun _ z => z) (fun i y _ => ∃ d, ds[i]? = some d ∧ y = V.bl (rowOk ds.length d)) (fun _ _ _ _ _ z => z) ?_ ?_
      · rintro i x H2 H2' k hi s2 _ ⟨rfl, hx⟩ hk
        obtain ⟨dr, hdr, hdx⟩ := dpAll_get (dpAll_same s2 hds1) hx
        refine ⟨rfl, ?_⟩
        refine ⟨_, rfl, x, dr, rfl, hdx, fun H3 s3 => ⟨_, rfl, ?_⟩⟩
        cases hqr : isSeq dr with
        | false =>
          exact hk _ _ s3 ⟨dr, hdr, by cases dr <;> first | rfl | cases hqr⟩
        | true =>
          obtain ⟨b, ys, es, rfl, hes, hsb, hddr⟩ := seq_src hdx hqr
          have hsb3 := sq_same s3 hsb
          have hle := dpAll_len hes
          have erow : rowOk ds.length dr = ((es.length == ds.length) && es.all isI) := by rcases hddr with e | e <;> rw [e] <;> rfl
          have hez := hsz2 dr (List.mem_of_getElem? hdr) es hddr
          refine ⟨_, rfl, b, ys, rfl, hsb3, _, rfl, a, xs, rfl, sq_same (s2.trans s3) hsq1, rfl, _, rfl, ?_⟩
          have el : decide (V.int (ys.length : Int) = V.int (xs.length : Int)) = (es.length == ds.length) := by
            rw [dec_int, hle, hlen]
            by_cases h : es.length = ds.length
            · rw [decide_eq_true (by omega), beq_iff_eq.mpr h]
            · rw [decide_eq_false (by omega), beq_eq_false_iff_ne.mpr h]
          rw [el]
          cases hl : (es.length == ds.length) with
          | false =>
            exact hk _ _ s3 ⟨dr, hdr, by rw [erow, hl]; rfl⟩
          | true =>
            obtain ⟨J2, hJ2, wk2⟩ := seq_it hsb3
            refine ⟨_, rfl, b, rfl, J2, hJ2, fun L2 hL2 => ?_⟩
            refine lc_same wk2 hL2 (by omega) (fun _ z => z) (fun i y _ => ∃ d, es[i]? = some d ∧ y = V.bl (isI d)) (fun _ _ _ _ _ z => z) ?_ ?_
            · rintro j z H4 H4' k2 hj s4 _ ⟨rfl, hz⟩ hk2
              obtain ⟨de, hde, hdz⟩ := dpAll_get (dpAll_same (s3.trans s4) hes) hz
              exact ⟨rfl, _, rfl, z, de, rfl, hdz, hk2 _ _ (Same.refl _) ⟨de, hde, rfl⟩⟩
            · intro zs H4 hzl hzr s4 hz
              have ez := all_map (f := isI) (ys := zs) (ds := es) (by omega) hzr
              refine ⟨L2, es.map isI, rfl, SqL.of (by rw [← ez]; exact hz), hk _ _ (s3.trans s4) ⟨dr, hdr, ?_⟩⟩
              rw [erow, hl, List.all_map]
              rfl
      · intro ys H2 hyl hyr s2 hy
        have ey := all_map (f := rowOk ds.length) (ys := ys) (ds := ds) (by omega) hyr
        refine ⟨L, ds.map (rowOk ds.length), rfl, SqL.of (by rw [← ey]; exact hy), ?_⟩
        rw [List.all_map]
        exact q _ (s1.trans s2)
/-! ### the rows as they stand in a heap -/
/-- at R a list of rows, each a list of ints at its own place -/
structure RowsAt (H : Hp) (R : Addr) (ps : List Addr) (M : Mat) : Prop where
  top : H R = some (.lst (ps.map V.ref))
  len : ps.length = M.length
  cell : ∀ (i : Nat) p r, ps[i]? = some p → M[i]? = some r → H p = some (.lst (r.map V.int))
theorem RowsAt.same {H H' : Hp} {R : Addr} {ps : List Addr} {M : Mat} (h : RowsAt H R ps M) (s : Same H H') : RowsAt H' R ps M := ⟨s _ _ h.top, h.len, fun i p r e1 e2 => s _ _ (h.cell i p r e1 e2)⟩
theorem RowsAt.get {H : Hp} {R : Addr} {ps : List Addr} {M : Mat} (h : RowsAt H R ps M) {i : Nat} (hi : i < M.length) : ∃ p, ps[i]? = some p ∧ H p = some (.lst ((row M i).map V.int)) ∧ atI (ps.map V.ref) (i : Int) = some (.ref p) := by
  have hi2 : i < ps.length := by rw [h.len]; exact hi
  refine ⟨ps[i], List.getElem?_eq_getElem hi2, ?_, ?_⟩
  · refine h.cell i _ _ (List.getElem?_eq_getElem hi2) ?_
    unfold row
    rw [List.getD_eq_getElem?_getD, List.getElem?_eq_getElem hi]
    rfl
  · refine atI_nat ?_
    rw [List.getElem?_map, List.getElem?_eq_getElem hi2]
    rfl
theorem at_int {r : List Int} {i : Nat} (h : i < r.length) : atI (r.map V.int) (i : Int) = some (.int (r.getD i 0)) := atI_map h
/-- all entries below 2 ^ b in size -/
def Bd (b : Nat) (M : Mat) : Prop := ∀ r ∈ M, ∀ x ∈ r, x.natAbs < 2 ^ b
theorem Bd.at {b : Nat} {M : Mat} (h : Bd b M) (i j : Nat) : ((row M i).getD j 0).natAbs < 2 ^ b := by
  unfold row
  rw [List.getD_eq_getElem?_getD, List.getD_eq_getElem?_getD]
  cases e : M[i]? with
  | none => simp; exact Nat.two_pow_pos b
  | some r =>
    simp only [Option.getD_some]
    cases e2 : r[j]? with
    | none => simp; exact Nat.two_pow_pos b
    | some x => exact h r (List.mem_of_getElem? e) x (List.mem_of_getElem? e2)
def spPivot : Sp := fun vs H Q _ => ∃ (R : Addr) (ps : List Addr) (M : Mat) (n : Nat), vs = [.ref R, .int (n : Int)] ∧ RowsAt H R ps M ∧ (∀ r ∈ M, n < r.length) ∧ n ≤ M.length ∧ M.length ≤ 100 ∧ Q (match pivot M n with | some i => .int (i : Int) | none => .non) H
theorem find_step {M : Mat} {n i : Nat} (h : ∀ j, n ≤ j → j < i → ((row M j).getD n 0 != 0) = false) (hi : i < M.length) (hn : n ≤ i) (hx : ((row M i).getD n 0 != 0) = true) : pivot M n = some i := by
  unfold pivot
  rw [List.find?_eq_some_iff_append]
  refine ⟨hx, List.range' n (i - n), List.range' (i + 1) (M.length - i - 1), ?_, fun j hj => ?_⟩
  · have this := List.range'_append (s := n) (m := i - n) (n := M.length - i - 1 + 1) (step := 1)
    rw [show n + 1 * (i - n) = i by omega, show i - n + (M.length - i - 1 + 1) = M.length - n by omega, List.range'_succ] at this
    exact this.symm
  · obtain ⟨h1, h2⟩ := List.mem_range'_1.mp hj
    rw [h j h1 (by omega)]
    rfl
theorem find_none {M : Mat} {n : Nat} (h : ∀ j, n ≤ j → j < M.length → ((row M j).getD n 0 != 0) = false) : pivot M n = none := by
  unfold pivot
  rw [List.find?_eq_none]
  intro j hj
  obtain ⟨h1, h2⟩ := List.mem_range'_1.mp hj
  rw [h j h1 (by omega)]
  exact Bool.false_ne_true
theorem ok_pivot_at (T : Txt K mg) : FnOk P w K mg base CX0 1 T.a_pivot_at T.d_pivot_at ["rows", "at"] spPivot := by
  refine T.pivot_at.F.ok sc_pivot_at (fun vs H Q E h => ?_) (fun cdv A outer s H vs Q E hr h => ?_)
  · obtain ⟨R, ps, M, n, rfl, _⟩ := h
    rfl
  · obtain ⟨R, ps, M, n, rfl, hM, hr0, hn, hm, q⟩ := h
    have hl := hM.len
    refine ⟨_, (pss_cons (ps_for PassesOwn.never (by rfl) (pi_range2 (by rfl) T.g_range (pa_cons (pv 1) (pa_cons (pe_callB (id := "len") (k_len (K := K) rfl) (by rfl) T.g_len (by decide +kernel) (pa_cons (pv 0) pa_nil)) pa_nil))) (pg_name (i := 2) sc_pivot_at.nd rfl (Or.inl rfl))
      (pss_one (ps_if (pt_cmpR op_ne (pe_ix (kix_list (K := K) rfl) (pe_ix (kix_list (K := K) rfl) (pv 0) (pv 2) (fun _ _ => rfl)) (pv 1) (fun _ _ => rfl)) pe_int (nomark _)) (pss_one (ps_ret (pv 2))) pss_nil)))
      (pss_one (ps_ret pe_non))), ?_⟩
    refine ⟨_, rfl, _, rfl, R, _, rfl, .inl (SqL.of hM.top), _, _, rfl, ⟨by omega, by omega, by rw [List.length_map]; omega, by rw [List.length_map]; omega⟩, ?_⟩
    refine for_range (lo := (n : Int)) (fun i σ H' => H' = H ∧ (∀ j, n ≤ j → j < n + i → ((row M j).getD n 0 != 0) = false) ∧ ∃ v, σ = [some (.ref R), some (.int (n : Int)), v]) ⟨rfl, fun j h1 h2 => by omega, none, rfl⟩ ?_ ?_
    · rintro i σ H' hi ⟨rfl, hz, v, rfl⟩
      have hi2 : n + i < M.length := by simp at hi; omega
      obtain ⟨p, hp1, hp2, hp3⟩ := hM.get hi2
      have hlt : n < (row M (n + i)).length := by
        refine hr0 _ ?_
        unfold row
        rw [List.getD_eq_getElem?_getD, List.getElem?_eq_getElem hi2]
        exact List.getElem_mem hi2
      rw [show ((n : Int) + (i : Int)) = ((n + i : Nat) : Int) by omega]
      refine ⟨_, rfl, _, rfl, R, _, _, _, rfl, rfl, SqL.of hM.top, hp3, _, rfl, p, _, _, _, rfl, rfl, SqL.of hp2, at_int hlt, rfl, _, rfl, ?_⟩
      rw [dec_int]
      refine iteB (fun h => ?_) (fun h => ?_)
      · refine ⟨_, rfl, ?_⟩
        rw [find_step (M := M) (n := n) (i := n + i) hz hi2 (by omega) (by simpa using h)] at q
        exact q
      · refine ⟨rfl, fun j h1 h2 => ?_, _, rfl⟩
        by_cases hj : j = n + i
        · rw [hj]
          simpa using h
        · exact hz j h1 (by omega)
    · rintro σ H' ⟨rfl, hz, v, rfl⟩
      have e := find_none (M := M) (n := n) fun j h1 h2 => hz j h1 (by simp; omega)
      rw [e] at q
      exact q
/-! ### cleared_row -/
theorem fdiv_le (x y : Int) : (x.fdiv y).natAbs ≤ x.natAbs := by
  rcases Int.lt_trichotomy y 0 with h | h | h
  · rw [← Int.neg_fdiv_neg x y, Int.fdiv_eq_ediv_of_nonneg _ (by omega), ← Int.natAbs_neg x]
    exact Int.natAbs_ediv_le_natAbs _ _
  · subst h
    simp
  · rw [Int.fdiv_eq_ediv_of_nonneg _ (by omega)]
    exact Int.natAbs_ediv_le_natAbs x y
def CDivX (_ j : Int) : Prop := j ≠ 0 ∧ j.natAbs.log2 < 9000
theorem op_fdivX {X : Cx} : OpR X (binaryOp .FloorDiv) (rI CDivX fun i j => .int (i.fdiv j)) := opI fun i j _ _ _ _ _ hc q => PyProof.Rows.floordiv_int hc.1 q (.inl (PyProof.noPylong_of_log2 hc.2))
def spCleared : Sp := fun vs H Q _ => ∃ (a c : Addr) (r b : List Int) (n : Nat) (q : Int) (bt : Nat), vs = [.ref a, .ref c, .int (n : Int), .int q] ∧ H a = some (.lst (r.map V.int)) ∧ H c = some (.lst (b.map V.int)) ∧ n < r.length ∧ r.length = b.length ∧ r.length ≤ 100 ∧ q ≠ 0 ∧ q.natAbs < 2 ^ bt ∧
  (∀ x ∈ r, x.natAbs < 2 ^ bt) ∧ (∀ x ∈ b, x.natAbs < 2 ^ bt) ∧ 0 < bt ∧ bt ≤ 4000 ∧ ∀ (p : Addr) (H' : Hp), H p = none → Same H H' → H' p = some (.lst ((clr r b n q).map V.int)) → Q (.ref p) H'
theorem getD_bd {bt : Nat} {l : List Int} (h : ∀ x ∈ l, x.natAbs < 2 ^ bt) (i : Nat) : (l.getD i 0).natAbs < 2 ^ bt := by
  rw [List.getD_eq_getElem?_getD]
  cases e : l[i]? with
  | none => simp; exact Nat.two_pow_pos bt
  | some x => exact h x (List.mem_of_getElem? e)
theorem ok_cleared_row (T : Txt K mg) : FnOk P w K mg base CX0 1 T.a_cleared_row T.d_cleared_row ["row", "by", "at", "before"] spCleared := by
  refine T.cleared_row.F.ok sc_cleared_row (fun vs H Q E h => ?_) (fun cdv A outer s H vs Q E hr h => ?_)
  · obtain ⟨a, c, r, b, n, q, bt, rfl, _⟩ := h
    rfl
  · obtain ⟨a, c, r, b, n, q, bt, rfl, ha, hc, hn, hl, hlen, hq, hqb, hrb, hbb, hb0, hb1, k⟩ := h
    refine ⟨_, (pss_one (ps_ret (pe_lc (own := [("one", 4), ("other", 5)]) (by rfl) sc_cleared_row.nd (kpi_zip (K := K) rfl (by rfl) T.g_zip (pa_cons (pv 0) (pa_cons (pv 1) pa_nil))) (blkOk_by (own := [("one", 4), ("other", 5)]) (N := n_cleared_row) (sc := defScope s_cleared_row) (by decide +kernel)) (fun _ _ _ _ _ => by exact (kpg_tup (K := K) (n := 2) rfl (by rfl) (pgs_cons (pg_name (i := 4) sc_cleared_row.nd rfl (Or.inl rfl)) (pgs_cons (pg_name (i := 5) sc_cleared_row.nd rfl (Or.inl rfl)) pgs_nil)))) (fun _ _ _ _ _ => by exact pts_nil) (fun _ _ _ _ _ => by exact (pe_op op_fdivX (pe_op op_sub (pe_op op_mulW (pe_ix (kix_list (K := K) rfl) (pv 1) (pv 2) (fun _ _ => rfl)) (pv 4)) (pe_op op_mulW (pe_ix (kix_list (K := K) rfl) (pv 0) (pv 2) (fun _ _ => rfl)) (pv 5))) (pv 3)))))), ?_⟩
    refine ⟨_, rfl, _, rfl, a, c, _, _, rfl, SqL.of ha, SqL.of hc, fun L hL => ?_⟩
    have wk := walk_zip (K := K) (a := a) (b := c) (xs := r.map V.int) (ys := b.map V.int) (n := r.length) (by simp; omega)
    refine lc_same (wk.mono (G' := fun H' => Same H H') (fun H' s => ⟨s.seq (SqL.of ha), s.seq (SqL.of hc)⟩) fun _ _ _ _ _ _ y => y) hL (by omega) (fun _ z => z) (fun i y _ => ∃ x z, r[i]? = some x ∧ b[i]? = some z ∧ y = V.int ((b.getD n 0 * x - r.getD n 0 * z).fdiv q)) (fun _ _ _ _ _ z => z) ?_ ?_
    · rintro i x H2 H2' k2 hi s2 _ ⟨T1, x1, y1, rfl, hT, rfl, hx, hy⟩ hk
      obtain ⟨u, hu, rfl⟩ := get_int hx
      obtain ⟨v, hv, rfl⟩ := get_int hy
      have s3 := same_new (o := .tup [.int u, .int v]) s2 hT
      have ub := hrb u (List.mem_of_getElem? hu)
      have vb := hbb v (List.mem_of_getElem? hv)
      refine ⟨T1, _, rfl, SqT.of upd_same, rfl, _, _, rfl, _, _, rfl, rfl, rfl, ?_⟩
      refine ⟨_, rfl, _, rfl, c, _, _, _, rfl, rfl, s3.seq (SqL.of hc), at_int (by omega), _, rfl, _, _, rfl, rfl, wide_mul (getD_bd hbb n) ub hb0 hb0 (by omega), ?_⟩
      refine ⟨_, rfl, _, rfl, a, _, _, _, rfl, rfl, s3.seq (SqL.of ha), at_int (by omega), _, rfl, _, _, rfl, rfl, wide_mul (getD_bd hrb n) vb hb0 hb0 (by omega), _, _, rfl, rfl, _, rfl, _, _, rfl, rfl, ⟨hq, Nat.lt_of_lt_of_le (PySem.Flt.log2_lt_of hb0 hqb) (by omega)⟩, ?_⟩
      exact hk _ _ (same_new (Same.refl _) hT) ⟨u, v, hu, hv, rfl⟩
    · intro ys H2 hyl hyr s2 hy
      have ey : ys = (clr r b n q).map V.int := by
        apply List.ext_getElem?
        intro i
        by_cases hi : i < r.length
        · have hi2 : i < ys.length := by omega
          obtain ⟨x, z, h1, h2, h3⟩ := hyr i ys[i] (List.getElem?_eq_getElem hi2)
          rw [List.getElem?_eq_getElem hi2, List.getElem?_map]
          unfold clr
          rw [List.getElem?_zipWith, h1, h2, h3]
          rfl
        · rw [List.getElem?_eq_none (by omega), List.getElem?_eq_none (by unfold clr; simp; omega)]
      exact k L H2 hL s2 (by rw [hy, ey])
/-! ### determinant -/
def rowI : PyData → List Int
  | .list xs => xs.map fun | .int i => i | _ => 0
  | .tuple xs => xs.map fun | .int i => i | _ => 0
  | _ => []
def matD : PyData → Mat
  | .list rs => rs.map rowI
  | .tuple rs => rs.map rowI
  | _ => []
def bts : Nat → Nat
  | 0 => 60
  | n + 1 => 2 * bts n + 1
theorem bts_pos (n : Nat) : 0 < bts n := by cases n <;> simp [bts]
theorem bts_le {n : Nat} (h : n ≤ 4) : bts n ≤ 975 := by
  match n, h with
  | 0, _ => decide
  | 1, _ => decide
  | 2, _ => decide
  | 3, _ => decide
  | 4, _ => decide
theorem clr_bd {r b : List Int} {n bt : Nat} {q : Int} (hr : ∀ x ∈ r, x.natAbs < 2 ^ bt) (hb : ∀ x ∈ b, x.natAbs < 2 ^ bt) : ∀ x ∈ clr r b n q, x.natAbs < 2 ^ (2 * bt + 1) := by
  intro x hx
  unfold clr at hx
  obtain ⟨i, hi, e⟩ := List.mem_iff_getElem.mp hx
  rw [List.getElem_zipWith] at e
  have h1 := hr (r[i]'(by simp at hi; omega)) (List.getElem_mem _)
  have h2 := hb (b[i]'(by simp at hi; omega)) (List.getElem_mem _)
  have g1 := getD_bd hb n
  have g2 := getD_bd hr n
  have m1 := wide_lt g1 h1
  have m2 := wide_lt g2 h2
  rw [← e]
  refine Nat.lt_of_le_of_lt (fdiv_le _ _) ?_
  have e2 : (2 : Nat) ^ (2 * bt + 1) = 2 ^ (bt + bt) + 2 ^ (bt + bt) := by
    rw [Nat.pow_succ, show 2 * bt = bt + bt by omega]
    omega
  rw [e2]
  omega
def clrTo (M : Mat) (n : Nat) (q : Int) (k : Nat) : Mat := M.mapIdx fun i r => if n < i ∧ i < n + 1 + k then clr r (row M n) n q else r
theorem clrTo_zero (M : Mat) (n : Nat) (q : Int) : clrTo M n q 0 = M := by
  unfold clrTo
  apply List.ext_getElem
  · simp
  · intro i h1 h2
    simp
    omega
theorem clrTo_all {M : Mat} {n : Nat} {q : Int} {k : Nat} (h : M.length ≤ n + 1 + k) : clrTo M n q k = clrAll M n q := by
  unfold clrTo clrAll
  apply List.ext_getElem
  · simp
  · intro i h1 h2
    simp at h1
    simp only [List.getElem_mapIdx]
    by_cases hi : n < i
    · rw [if_pos ⟨hi, by omega⟩, if_pos hi]
    · rw [if_neg (fun z => hi z.1), if_neg hi]
theorem clrTo_len (M : Mat) (n : Nat) (q : Int) (k : Nat) : (clrTo M n q k).length = M.length := by unfold clrTo; simp
theorem clrTo_row {M : Mat} {n : Nat} {q : Int} {k i : Nat} (h : i < M.length) (hi : ¬ (n < i ∧ i < n + 1 + k)) : row (clrTo M n q k) i = row M i := by
  unfold row clrTo
  rw [List.getD_eq_getElem?_getD, List.getD_eq_getElem?_getD, List.getElem?_mapIdx, List.getElem?_eq_getElem h]
  simp only [Option.map_some, Option.getD_some]
  rw [if_neg hi]
theorem clrTo_get (M : Mat) (n : Nat) (q : Int) (k i : Nat) : (clrTo M n q k)[i]? = M[i]?.map fun r => if n < i ∧ i < n + 1 + k then clr r (row M n) n q else r := by
  unfold clrTo
  rw [List.getElem?_mapIdx]
theorem clrTo_succ {M : Mat} {n : Nat} {q : Int} {k : Nat} (h : n + 1 + k < M.length) : clrTo M n q (k + 1) = (clrTo M n q k).set (n + 1 + k) (clr (row M (n + 1 + k)) (row M n) n q) := by
  apply List.ext_getElem?
  intro i
  by_cases hi : i = n + 1 + k
  · subst hi
    rw [List.getElem?_set_self (by rw [clrTo_len]; exact h), clrTo_get, List.getElem?_eq_getElem h]
    simp only [Option.map_some]
    rw [if_pos ⟨by omega, by omega⟩]
    unfold row
    rw [List.getD_eq_getElem?_getD (l := M) (i := n + 1 + k), List.getElem?_eq_getElem h]
    rfl
  · rw [List.getElem?_set_ne (Ne.symm hi), clrTo_get, clrTo_get]
    cases M[i]? with
    | none => rfl
    | some r =>
      simp only [Option.map_some]
      by_cases hc : n < i ∧ i < n + 1 + k
      · rw [if_pos hc, if_pos ⟨hc.1, by omega⟩]
      · rw [if_neg hc, if_neg (fun z => hc ⟨z.1, by omega⟩)]
theorem RowsAt.set {H : Hp} {R : Addr} {ps : List Addr} {M : Mat} (h : RowsAt H R ps M) {i : Nat} {p : Addr} {r : List Int} (hp : H p = some (.lst (r.map V.int))) (np : p ≠ R) (nR : ∀ q ∈ ps, q ≠ R) :
    RowsAt (upd H R (.lst ((ps.map V.ref).set i (.ref p)))) R (ps.set i p) (M.set i r) := by
  refine ⟨by rw [upd_same, ← List.map_set], by rw [List.length_set, List.length_set, h.len], fun j q t e1 e2 => ?_⟩
  by_cases hj : j = i
  · subst hj
    have l1 := (List.getElem?_eq_some_iff.mp e1).1
    have l2 := (List.getElem?_eq_some_iff.mp e2).1
    rw [List.length_set] at l1 l2
    rw [List.getElem?_set_self l1] at e1
    rw [List.getElem?_set_self l2] at e2
    cases e1
    cases e2
    rw [upd_ne np]
    exact hp
  · rw [List.getElem?_set_ne (Ne.symm hj)] at e1 e2
    rw [upd_ne (nR q (List.mem_of_getElem? e1))]
    exact h.cell j q t e1 e2
theorem refs_of : ∀ {ys : List V} {Pp : Nat → Addr → Prop}, (∀ (i : Nat) (y : V), ys[i]? = some y → ∃ p, y = .ref p ∧ Pp i p) → ∃ ps : List Addr, ys = ps.map V.ref ∧ ∀ (i : Nat) p, ps[i]? = some p → Pp i p
  | [], _, _ => ⟨[], rfl, fun i p e => by simp at e⟩
  | y :: ys, Pp, h => by
    obtain ⟨p, e, hp⟩ := h 0 y rfl
    obtain ⟨ps, e2, h2⟩ := refs_of (ys := ys) (Pp := fun i q => Pp (i + 1) q) fun i z ez => h (i + 1) z (by simpa using ez)
    refine ⟨p :: ps, by rw [e, e2]; rfl, fun i q eq => ?_⟩
    cases i with
    | zero =>
      have : p = q := by simpa using eq
      rw [← this]
      exact hp
    | succ i => exact h2 i q (by simpa using eq)
def iOf : PyData → Int
  | .int i => i
  | _ => 0
theorem rowI_list (es : List PyData) : rowI (.list es) = es.map iOf := List.map_congr_left fun d _ => by cases d <;> rfl
theorem rowI_tuple (es : List PyData) : rowI (.tuple es) = es.map iOf := List.map_congr_left fun d _ => by cases d <;> rfl
theorem ints_of {K : PySem.W.Frag} {H : Hp} : ∀ {ys : List V} {es : List PyData}, DpAll K H ys es → es.all isI = true → ys = (es.map iOf).map V.int
  | _, _, .nil, _ => rfl
  | _, _, .cons h t, ha => by
    rw [List.all_cons, Bool.and_eq_true] at ha
    rw [List.map_cons, List.map_cons, ← ints_of t ha.2]
    cases h with
    | int i => rfl
    | non => cases ha.1
    | bl b => cases ha.1
    | str x => cases ha.1
    | lst _ _ => cases ha.1
    | tup _ _ => cases ha.1
/-- a row of data that is right: its ints, its length -/
theorem row_src {K : PySem.W.Frag} {H : Hp} {v : V} {d : PyData} {n : Nat} (hd : Dp K H v d) (h : rowOk n d = true) : ∃ a, v = .ref a ∧ (SqL K H a ((rowI d).map V.int) ∨ SqT K H a ((rowI d).map V.int)) ∧ (rowI d).length = n := by
  cases hd with
  | non => cases h
  | bl b => cases h
  | int i => cases h
  | str x => cases h
  | @lst a xs ds h1 h2 =>
    have h' : ((ds.length == n) && ds.all isI) = true := h
    rw [Bool.and_eq_true] at h'
    rw [rowI_list]
    refine ⟨a, rfl, .inl (by rw [← ints_of h2 h'.2]; exact h1), by rw [List.length_map]; exact beq_iff_eq.mp h'.1⟩
  | @tup a xs ds h1 h2 =>
    have h' : ((ds.length == n) && ds.all isI) = true := h
    rw [Bool.and_eq_true] at h'
    rw [rowI_tuple]
    refine ⟨a, rfl, .inr (by rw [← ints_of h2 h'.2]; exact h1), by rw [List.length_map]; exact beq_iff_eq.mp h'.1⟩
def spDet (K : PySem.W.Frag) (C : Addr) : Sp := fun vs H Q E => ∃ (v : V) (d : PyData), vs = [v] ∧ Dp K H v d ∧ (∀ xs, d = .list xs ∨ d = .tuple xs → xs.length ≤ 100 ∧ ∀ r ∈ xs, ∀ zs, r = .list zs ∨ r = .tuple zs → zs.length ≤ 100) ∧
  (sqr d = false → ∀ (x : Addr) (H' : Hp), H x = none → Same H H' → H' x = some (.xd [("value", v)]) → E (.ref C) (some x) H') ∧
  (sqr d = true → (matD d).length ≤ 4 ∧ Bd 60 (matD d) ∧ ∀ H', Same H H' → Q (.int (bare (matD d))) H')
theorem bareL_step {k n : Nat} {M : Mat} {s b : Int} : bareL (k + 1) n M s b = match pivot M n with
    | none => 0
    | some i => if i = n then bareL k (n + 1) (clrAll M n b) s ((row M n).getD n 0) else bareL k (n + 1) (clrAll (swapR M n i) n b) (-s) ((row (swapR M n i) n).getD n 0) := rfl
/-- the state between two turns -/
structure DetAt (H0 H : Hp) (R : Addr) (N n : Nat) (M : Mat) (s b t : Int) : Prop where
  sm : Same H0 H
  rows : ∃ ps, RowsAt H R ps M ∧ ∀ q ∈ ps, q ≠ R
  sq : Sq N M
  bd : Bd (bts n) M
  b0 : b ≠ 0
  bb : b.natAbs < 2 ^ bts n
  ss : s = 1 ∨ s = -1
  tg : bareL (N - n) n M s b = t
/-- what a turn does behind the choice of its row -/
def tRest (K : PySem.W.Frag) : TS :=
  tSeq (tFor (iRng2 (tCons (tOp (rI0 fun i j => V.int (i + j)) (tVar 4) (tC (V.int 1))) (tCons (tCB (rLenSq K) (tCons (tVar 1) tNil)) tNil))) (gName 6)
    (tAsg (tCall spCleared [] E0 (tCons (tOp (rIxL K) (tVar 1) (tVar 6)) (tCons (tOp (rIxL K) (tVar 1) (tVar 4)) (tCons (tVar 4) (tCons (tVar 3) tNil))))) (gSub (tVar 1) (tVar 6) rSetL)))
    (tAsg (tOp (rIxL K) (tOp (rIxL K) (tVar 1) (tVar 4)) (tVar 4)) (gName 3))
theorem row_mem {M : Mat} {i : Nat} (h : i < M.length) : row M i ∈ M := by
  unfold row
  rw [List.getD_eq_getElem?_getD, List.getElem?_eq_getElem h]
  exact List.getElem_mem h
theorem ixN_nat {n i : Nat} (h : i < n) : ixN n (i : Int) = some i := by
  unfold ixN
  rw [if_pos (by omega), if_pos (by omega)]
  rfl
theorem clrTo_bd {M : Mat} {n k bt : Nat} {q : Int} (h : Bd bt M) : Bd (2 * bt + 1) (clrTo M n q k) := by
  intro r hr x hx
  obtain ⟨i, hi⟩ := List.mem_iff_getElem?.mp hr
  rw [clrTo_get] at hi
  cases e : M[i]? with
  | none => rw [e] at hi; cases hi
  | some r0 =>
    rw [e] at hi
    simp only [Option.map_some, Option.some.injEq] at hi
    have hr0 := List.mem_of_getElem? e
    by_cases hc : n < i ∧ i < n + 1 + k
    · rw [if_pos hc] at hi
      rw [← hi] at hx
      refine clr_bd (h r0 hr0) ?_ x hx
      unfold row
      rw [List.getD_eq_getElem?_getD]
      cases e2 : M[n]? with
      | none => simp
      | some b0 => exact h b0 (List.mem_of_getElem? e2)
    · rw [if_neg hc] at hi
      rw [← hi] at hx
      exact Nat.lt_of_lt_of_le (h r0 hr0 x hx) (Nat.pow_le_pow_right (by decide) (by omega))
theorem clr_len (r b : List Int) (n : Nat) (q : Int) : (clr r b n q).length = min r.length b.length := by unfold clr; simp
theorem clrTo_sq {M : Mat} {N n k : Nat} {q : Int} (h : Sq N M) (hn : n < N) : Sq N (clrTo M n q k) := by
  refine ⟨by rw [clrTo_len, h.len], fun r hr => ?_⟩
  obtain ⟨i, hi⟩ := List.mem_iff_getElem?.mp hr
  rw [clrTo_get] at hi
  cases e : M[i]? with
  | none => rw [e] at hi; cases hi
  | some r0 =>
    rw [e] at hi
    simp only [Option.map_some, Option.some.injEq] at hi
    have hr0 := h.row r0 (List.mem_of_getElem? e)
    have hb := h.row _ (row_mem (M := M) (i := n) (by rw [h.len]; exact hn))
    by_cases hc : n < i ∧ i < n + 1 + k
    · rw [if_pos hc] at hi
      rw [← hi, clr_len, hr0, hb]
      exact Nat.min_self N
    · rw [if_neg hc] at hi
      rw [← hi]
      exact hr0
theorem rest_run {H0 H : Hp} {R : Addr} {N n : Nat} {M : Mat} {s b : Int} {v : V} {v5 v6 v7 : Option V} {D : Ends} (sm : Same H0 H) (hR0 : H0 R = none) (hrows : ∃ ps, RowsAt H R ps M ∧ ∀ q ∈ ps, q ≠ R) (sq : Sq N M) (bd : Bd (bts n) M) (hn : n < N) (hN : N ≤ 4) (b0 : b ≠ 0) (bb : b.natAbs < 2 ^ bts n)
    (k : ∀ H' v6', Same H0 H' → (∃ ps, RowsAt H' R ps (clrAll M n b) ∧ ∀ q ∈ ps, q ≠ R) → D.nx [some v, some (.ref R), some (.int s), some (.int ((row M n).getD n 0)), some (.int (n : Int)), v5, v6', v7] H') :
    tRest K D [some v, some (.ref R), some (.int s), some (.int b), some (.int (n : Int)), v5, v6, v7] H := by
  obtain ⟨ps, hM, nR⟩ := hrows
  have hl := hM.len
  have hMl := sq.len
  refine ⟨_, rfl, _, _, rfl, rfl, _, rfl, R, _, rfl, .inl (SqL.of hM.top), _, _, rfl, ⟨by omega, by omega, by rw [List.length_map]; omega, by rw [List.length_map]; omega⟩, ?_⟩
  refine for_range (lo := (n : Int) + 1) (fun j σ H' => Same H0 H' ∧ (∃ ps, RowsAt H' R ps (clrTo M n b j) ∧ ∀ q ∈ ps, q ≠ R) ∧ ∃ v6', σ = [some v, some (.ref R), some (.int s), some (.int b), some (.int (n : Int)), v5, v6', v7]) ⟨sm, ⟨ps, by rw [clrTo_zero]; exact hM, nR⟩, v6, rfl⟩ ?_ ?_
  · rintro j σ H1 hj ⟨s1, ⟨qs, h1, nq⟩, v6', rfl⟩
    have hj2 : n + 1 + j < N := by rw [List.length_map] at hj; omega
    rw [show (n : Int) + 1 + (j : Int) = ((n + 1 + j : Nat) : Int) by omega]
    have hcl : (clrTo M n b j).length = N := by rw [clrTo_len, hMl]
    obtain ⟨p1, hp1, hp2, hp3⟩ := h1.get (i := n + 1 + j) (by omega)
    obtain ⟨p2, hq1, hq2, hq3⟩ := h1.get (i := n) (by omega)
    rw [clrTo_row (by omega) (by omega)] at hp2 hq2
    have hr1 := row_mem (M := M) (i := n + 1 + j) (by omega)
    have hr2 := row_mem (M := M) (i := n) (by omega)
    refine ⟨_, rfl, _, rfl, R, _, _, _, rfl, rfl, SqL.of h1.top, hp3, _, rfl, _, rfl, R, _, _, _, rfl, rfl, SqL.of h1.top, hq3, _, rfl, _, rfl, ?_⟩
    have hb4 := bts_le (n := n) (by omega)
    refine ⟨p1, p2, _, _, n, b, bts n, rfl, hp2, hq2, by rw [sq.row _ hr1]; omega, by rw [sq.row _ hr1, sq.row _ hr2], by rw [sq.row _ hr1]; omega, b0, bb, bd _ hr1, bd _ hr2, bts_pos n, by omega, fun p H2 hp s2 h2 => ?_⟩
    have np : p ≠ R := (ne_of_none h1.top hp).symm
    refine ⟨_, rfl, _, rfl, R, _, _, n + 1 + j, rfl, rfl, s2 _ _ h1.top, ixN_nat (by rw [List.length_map, h1.len]; omega), ?_⟩
    refine ⟨same_mut (s1.trans s2) hR0, ⟨qs.set (n + 1 + j) p, ?_, fun q hq => ?_⟩, _, rfl⟩
    · rw [clrTo_succ (by omega)]
      exact (h1.same s2).set h2 np nq
    · rcases List.mem_or_eq_of_mem_set hq with h | h
      · exact nq q h
      · rw [h]
        exact np
  · rintro σ H1 ⟨s1, ⟨qs, h1, nq⟩, v6', rfl⟩
    have hall : clrTo M n b ((((ps.map V.ref).length : Int) - ((n : Int) + 1)).toNat) = clrAll M n b := clrTo_all (by rw [List.length_map]; omega)
    rw [hall] at h1
    have hcl : (clrAll M n b).length = N := by rw [← clrTo_all (M := M) (n := n) (q := b) (k := N) (by omega), clrTo_len, hMl]
    obtain ⟨p2, hq1, hq2, hq3⟩ := h1.get (i := n) (by omega)
    have er : row (clrAll M n b) n = row M n := by
      rw [← clrTo_all (M := M) (n := n) (q := b) (k := N) (by omega)]
      exact clrTo_row (by omega) (by omega)
    rw [er] at hq2
    have hr2 := row_mem (M := M) (i := n) (by omega)
    refine ⟨_, rfl, _, rfl, R, _, _, _, rfl, rfl, SqL.of h1.top, hq3, _, rfl, p2, _, _, _, rfl, rfl, SqL.of hq2, at_int (by rw [sq.row _ hr2]; omega), ?_⟩
    exact k H1 v6' s1 ⟨qs, h1, nq⟩
theorem swap_len (M : Mat) (i j : Nat) : (swapR M i j).length = M.length := by unfold swapR; simp
theorem swap_mem {M : Mat} {i j : Nat} (hi : i < M.length) (hj : j < M.length) {r : List Int} (h : r ∈ swapR M i j) : r ∈ M := by
  unfold swapR at h
  rcases List.mem_or_eq_of_mem_set h with h | h
  · rcases List.mem_or_eq_of_mem_set h with h | h
    · exact h
    · rw [h]
      exact row_mem hj
  · rw [h]
    exact row_mem hi
theorem lead_ne {M : Mat} {n i : Nat} (h : pivot M n = some i) : (row M i).getD n 0 ≠ 0 ∧ n ≤ i ∧ i < M.length := by
  unfold pivot at h
  have h1 := List.find?_some h
  have h2 := List.mem_of_find?_eq_some h
  obtain ⟨a, b⟩ := List.mem_range'_1.mp h2
  exact ⟨by simpa using h1, a, by omega⟩
theorem swap_top {M : Mat} {n i : Nat} (hn : n < M.length) (hi : i < M.length) (hne : i ≠ n) : row (swapR M n i) n = row M i := by
  unfold swapR
  rw [show row ((M.set n (row M i)).set i (row M n)) n = ((M.set n (row M i)).set i (row M n)).getD n [] from rfl, List.getD_eq_getElem?_getD, List.getElem?_set_ne hne, List.getElem?_set_self hn]
  rfl
theorem ok_determinant (T : Txt K mg) : FnOk P w K mg base (L2.CX P w) 4 T.a_determinant T.d_determinant ["table"] (spDet K T.C_InvalidRows) := by
  refine T.determinant.F.okX sc_determinant (fun vs H Q E h => ?_) (fun cdv A outer s H vs Q E hr h => ?_)
  · obtain ⟨v, d, rfl, _⟩ := h
    rfl
  · obtain ⟨v, d, rfl, hd, hsz, hE, hQ⟩ := h
    refine ⟨_, (pss_cons (ps_if (pt_not (pt_val (pe_call (ok_is_square T) (hr.mono (by decide)) (by rfl) T.is_square.mgf T.is_square.F.kp T.is_square.b .nil pass0 (pa_cons (pv 0) pa_nil)))) (pss_one (ps_raise (by rfl) (takes_of rfl rfl rfl rfl) (pmk_oex T.x_InvalidRows.oex T.x_InvalidRows.iC T.x_InvalidRows.tI (ok_x_InvalidRows T) (hr.mono (by decide)) T.x_InvalidRows.b .nil pass0 (by rfl) T.x_InvalidRows.mgC (pa_cons (pv 0) pa_nil)))) pss_nil)
      (pss_cons (ps_par3 (i := 1) (j := 2) (l := 3) (by rfl) sc_determinant.nd rfl rfl rfl (by decide) (by decide) (by decide) rfl rfl rfl (pa_cons (pe_lc (own := [("row", 7)]) (by rfl) sc_determinant.nd (kpi_seq (K := K) rfl (pv 0)) (blkOk_by (own := [("row", 7)]) (N := n_determinant) (sc := defScope s_determinant) (by decide +kernel)) (fun _ _ _ _ _ => by exact (pg_name (i := 7) sc_determinant.nd rfl (Or.inl rfl))) (fun _ _ _ _ _ => by exact pts_nil) (fun _ _ _ _ _ => by exact (pe_callTy (T := "list") (k_list (K := K) rfl) (by rfl) T.g_list (by decide +kernel) (pa_cons (pv 7) pa_nil)))) (pa_cons pe_int (pa_cons pe_int pa_nil))) (by rfl))
      (pss_cons (ps_for (passes_of rfl) (by rfl) (pi_range1 (by rfl) T.g_range (pa_cons (pe_callB (id := "len") (k_len (K := K) rfl) (by rfl) T.g_len (by decide +kernel) (pa_cons (pv 1) pa_nil)) pa_nil)) (pg_name (i := 4) sc_determinant.nd rfl (Or.inl rfl))
      (pss_cons (ps_set (i := 5) sc_determinant.nd rfl (Or.inl rfl) (pe_call (ok_pivot_at T) (hr.mono (by decide)) (by rfl) T.pivot_at.mgf T.pivot_at.F.kp T.pivot_at.b .nil pass0 (pa_cons (pv 1) (pa_cons (pv 4) pa_nil))))
      (pss_cons (ps_if (pt_cmpR op_isN (pv 5) pe_non (nomark _)) (pss_one (ps_ret pe_int)) pss_nil)
      (pss_cons (ps_if (pt_cmpR op_ne (pv 5) (pv 4) (nomark _)) (pss_cons (ps_asg (pe_tup (pa_cons (pe_ix (kix_list (K := K) rfl) (pv 1) (pv 5) (fun _ _ => rfl)) (pa_cons (pe_ix (kix_list (K := K) rfl) (pv 1) (pv 4) (fun _ _ => rfl)) pa_nil))) (kpg_tup (K := K) (n := 2) rfl (by rfl) (pgs_cons (pg_sub (pv 1) (pv 4) set_list) (pgs_cons (pg_sub (pv 1) (pv 5) set_list) pgs_nil))))
      (pss_one (ps_set (i := 2) sc_determinant.nd rfl (Or.inl rfl) (pe_un un_neg (pv 2))))) pss_nil)
      (pss_cons (ps_for (passes_of rfl) (by rfl) (pi_range2 (by rfl) T.g_range (pa_cons (pe_op op_add (pv 4) pe_int) (pa_cons (pe_callB (id := "len") (k_len (K := K) rfl) (by rfl) T.g_len (by decide +kernel) (pa_cons (pv 1) pa_nil)) pa_nil))) (pg_name (i := 6) sc_determinant.nd rfl (Or.inl rfl))
      (pss_one (ps_asg (pe_call (ok_cleared_row T) (hr.mono (by decide)) (by rfl) T.cleared_row.mgf T.cleared_row.F.kp T.cleared_row.b .nil pass0 (pa_cons (pe_ix (kix_list (K := K) rfl) (pv 1) (pv 6) (fun _ _ => rfl)) (pa_cons (pe_ix (kix_list (K := K) rfl) (pv 1) (pv 4) (fun _ _ => rfl)) (pa_cons (pv 4) (pa_cons (pv 3) pa_nil))))) (pg_sub (pv 1) (pv 6) set_list))))
      (pss_one (ps_set (i := 3) sc_determinant.nd rfl (Or.inl rfl) (pe_ix (kix_list (K := K) rfl) (pe_ix (kix_list (K := K) rfl) (pv 1) (pv 4) (fun _ _ => rfl)) (pv 4) (fun _ _ => rfl)))))))))
      (pss_one (ps_ret (pe_op op_mul (pv 2) (pv 3))))))), ?_⟩
    refine ⟨_, rfl, v, d, rfl, hd, hsz, fun H1 s1 => ⟨_, rfl, ?_⟩⟩
    cases hq : sqr d with
    | false =>
      exact ⟨_, rfl, mk_exc fun x H' hx sx hv => hE hq x H' (s1.free hx) (s1.trans sx) hv⟩
    | true =>
      obtain ⟨hN, hB, q⟩ := hQ hq
      have hseq : isSeq d = true := by cases d <;> first | rfl | cases hq
      obtain ⟨a, xs, ds, rfl, hds, hsq, hdd⟩ := seq_src hd hseq
      have hM0 : matD d = ds.map rowI := by rcases hdd with e | e <;> rw [e] <;> rfl
      have hok : ds.all (rowOk ds.length) = true := by rcases hdd with e | e <;> rw [e] at hq <;> exact hq
      rw [hM0] at hN hB q
      rw [List.length_map] at hN
      have hlen := dpAll_len hds
      obtain ⟨J, hJ, wk⟩ := seq_it (sq_same s1 hsq)
      refine ⟨_, rfl, a, rfl, J, hJ, fun R hR => ?_⟩
      refine lc_same wk hR (by omega) (fun _ z => z) (fun i y Hw => ∃ p, y = V.ref p ∧ ∃ e, ds[i]? = some e ∧ Hw p = some (.lst ((rowI e).map V.int))) (fun i y Ha Hb sab ⟨p, e1, e, e2, e3⟩ => ⟨p, e1, e, e2, sab _ _ e3⟩) ?_ ?_
      · rintro i x H2 H2' k hi s2 ⟨acc, hacc⟩ ⟨rfl, hx⟩ hk
        obtain ⟨dr, hdr, hdx⟩ := dpAll_get (dpAll_same (s1.trans s2) hds) hx
        obtain ⟨b, rfl, hb, hbl⟩ := row_src hdx (List.all_eq_true.mp hok dr (List.mem_of_getElem? hdr))
        refine ⟨rfl, _, rfl, b, _, rfl, hb, fun p hp => ?_⟩
        refine hk _ _ (same_new (Same.refl _) hp) ⟨p, rfl, dr, hdr, ?_⟩
        have npR : p ≠ R := (ne_of_none hacc hp).symm
        rw [wo_ne npR, upd_same]
      · intro ys H2 hyl hyr s2 hy
        obtain ⟨ps, rfl, hps⟩ := refs_of hyr
        have hpl : ps.length = ds.length := by rw [List.length_map] at hyl; omega
        have hrows : RowsAt H2 R ps (ds.map rowI) := by
          refine ⟨hy, by rw [List.length_map, hpl], fun i p r e1 e2 => ?_⟩
          obtain ⟨e, he, h3⟩ := hps i p e1
          rw [List.getElem?_map, he] at e2
          have : r = rowI e := (Option.some.inj e2).symm
          rw [this]
          exact wo_same _ _ h3
        have nR : ∀ p ∈ ps, p ≠ R := fun p hp e => by
          obtain ⟨i, hi⟩ := List.mem_iff_getElem?.mp hp
          obtain ⟨_, _, h3⟩ := hps i p hi
          rw [e] at h3
          rw [show wo H2 R R = none from if_pos rfl] at h3
          cases h3
        have hSq : Sq ds.length (ds.map rowI) := by
          refine ⟨List.length_map .., fun r hr => ?_⟩
          obtain ⟨e, he, rfl⟩ := List.mem_map.mp hr
          obtain ⟨i, hi⟩ := List.mem_iff_getElem?.mp he
          have hix : i < xs.length := by have := (List.getElem?_eq_some_iff.mp hi).1; omega
          obtain ⟨e', h1, h2⟩ := dpAll_get hds (List.getElem?_eq_getElem hix)
          rw [hi] at h1
          cases h1
          obtain ⟨_, _, _, hl⟩ := row_src h2 (List.all_eq_true.mp hok e he)
          exact hl
        have q' : ∀ H', Same H1 H' → Q (.int (bare (ds.map rowI))) H' := fun H' s' => q H' (s1.trans s')
        have htg : bareL ds.length 0 (ds.map rowI) 1 1 = bare (ds.map rowI) := by unfold bare; rw [List.length_map]
        generalize bare (ds.map rowI) = t at q' htg
        generalize hNN : ds.length = N at *
        refine ⟨_, _, _, rfl, ?_⟩
        refine ⟨_, rfl, R, _, rfl, .inl (SqL.of hy), _, rfl, by rw [List.length_map]; omega, by rw [List.length_map]; omega, ?_⟩
        refine for_range (lo := 0) (fun i σ H' => ∃ M s b v4 v5 v6 v7, DetAt H1 H' R N i M s b t ∧ σ = [some (.ref a), some (.ref R), some (.int s), some (.int b), v4, v5, v6, v7]) ⟨ds.map rowI, 1, 1, none, none, none, none, ⟨s2, ⟨ps, hrows, nR⟩, hSq, hB, by decide, (by show 1 < 2 ^ 60; decide), .inl rfl, htg⟩, rfl⟩ ?_ ?_
        · rintro n σ H3 hn ⟨M, s, b, v4, v5, v6, v7, DA, rfl⟩
          rw [Int.zero_add]
          have hnN : n < N := by rw [List.length_map] at hn; omega
          obtain ⟨s3, ⟨qs, h3, nq⟩, sq3, bd3, b03, bb3, ss3, tg3⟩ := DA
          have hMl := sq3.len
          refine ⟨_, rfl, _, rfl, R, qs, M, n, rfl, h3, fun r hr => by rw [sq3.row r hr]; exact hnN, by omega, by omega, ?_⟩
          rw [show N - n = (N - (n + 1)) + 1 by omega, bareL_step] at tg3
          cases hp : pivot M n with
          | none =>
            rw [hp] at tg3
            refine ⟨_, rfl, rfl, _, rfl, ?_⟩
            show Q (.int 0) H3
            rw [show (0 : Int) = t from tg3]
            exact q' H3 s3
          | some pl =>
            rw [hp] at tg3
            obtain ⟨hlead, hge, hpl2⟩ := lead_ne hp
            refine ⟨_, rfl, rfl, _, rfl, ?_⟩
            refine iteBF (by rfl) ?_
            refine ⟨_, rfl, _, rfl, rfl, _, rfl, ?_⟩
            have hstep : ∀ (M1 : Mat) (s1 : Int), Sq N M1 → Bd (bts n) M1 → (s1 = 1 ∨ s1 = -1) → (row M1 n).getD n 0 ≠ 0 → bareL (N - (n + 1)) (n + 1) (clrAll M1 n b) s1 ((row M1 n).getD n 0) = t → ∀ H', Same H1 H' → (∃ ps, RowsAt H' R ps (clrAll M1 n b) ∧ ∀ q ∈ ps, q ≠ R) → DetAt H1 H' R N (n + 1) (clrAll M1 n b) s1 ((row M1 n).getD n 0) t := fun M1 s1 sq1 bd1 ss1 l1 tg1 H' s' hr' => by
              have ec : clrAll M1 n b = clrTo M1 n b N := (clrTo_all (by rw [sq1.len]; omega)).symm
              refine ⟨s', hr', by rw [ec]; exact clrTo_sq sq1 hnN, by rw [ec]; exact clrTo_bd bd1, l1, ?_, ss1, tg1⟩
              exact Nat.lt_of_lt_of_le (bd1.at n n) (Nat.pow_le_pow_right (by decide) (by show bts n ≤ 2 * bts n + 1; omega))
            refine iteB (fun hne => ?_) (fun hne => ?_)
            · have hne' : pl ≠ n := fun e => by
                rw [e] at hne
                simp at hne
              have tg3' : bareL (N - (n + 1)) (n + 1) (clrAll (swapR M n pl) n b) (-s) ((row (swapR M n pl) n).getD n 0) = t := by
                rw [← tg3]
                show _ = if pl = n then _ else _
                rw [if_neg hne']
              obtain ⟨p1, hp1, hp2, hp3⟩ := h3.get (i := pl) (by omega)
              obtain ⟨p2, hq1, hq2, hq3⟩ := h3.get (i := n) (by omega)
              refine ⟨_, rfl, _, rfl, R, _, _, _, rfl, rfl, SqL.of h3.top, hp3, _, rfl, _, rfl, R, _, _, _, rfl, rfl, SqL.of h3.top, hq3, (by show 2 ≤ sizeLine; decide), fun tt htt => ?_⟩
              have ntR : R ≠ tt := ne_of_none h3.top htt
              have h3t := h3.same (same_new (o := .tup [.ref p1, .ref p2]) (Same.refl H3) htt)
              refine ⟨tt, _, rfl, SqT.of upd_same, rfl, _, _, rfl, ?_⟩
              refine ⟨_, rfl, _, rfl, R, _, _, n, rfl, rfl, h3t.top, ixN_nat (by rw [List.length_map, h3.len]; omega), ?_⟩
              have m1 : p1 ≠ R := nq p1 (List.mem_of_getElem? hp1)
              have m2 : p2 ≠ R := nq p2 (List.mem_of_getElem? hq1)
              have hp2t : upd H3 tt (.tup [.ref p1, .ref p2]) p1 = some (.lst ((row M pl).map V.int)) := by rw [upd_ne (ne_of_none hp2 htt)]; exact hp2
              have hq2t : upd H3 tt (.tup [.ref p1, .ref p2]) p2 = some (.lst ((row M n).map V.int)) := by rw [upd_ne (ne_of_none hq2 htt)]; exact hq2
              have h4 := h3t.set (i := n) (r := row M pl) hp2t m1 nq
              have nq4 : ∀ q ∈ qs.set n p1, q ≠ R := fun q hq => by
                rcases List.mem_or_eq_of_mem_set hq with h | h
                · exact nq q h
                · rw [h]; exact m1
              refine ⟨_, _, rfl, _, rfl, _, rfl, R, _, _, pl, rfl, rfl, h4.top, ixN_nat (by rw [List.length_map, List.length_set, h3.len]; omega), rfl, ?_⟩
              have h5 := h4.set (i := pl) (r := row M n) (p := p2) (by rw [upd_ne m2]; exact hq2t) m2 nq4
              have nq5 : ∀ q ∈ (qs.set n p1).set pl p2, q ≠ R := fun q hq => by
                rcases List.mem_or_eq_of_mem_set hq with h | h
                · exact nq4 q h
                · rw [h]; exact m2
              have hR1 : H1 R = none := hR
              refine ⟨_, rfl, _, rfl, ?_⟩
              have swsq : Sq N (swapR M n pl) := ⟨by rw [swap_len, hMl], fun r hr => sq3.row r (swap_mem (by omega) hpl2 hr)⟩
              have swbd : Bd (bts n) (swapR M n pl) := fun r hr => bd3 r (swap_mem (by omega) hpl2 hr)
              exact rest_run (K := K) (same_mut (same_mut (same_new s3 htt) hR1) hR1) hR1 ⟨_, h5, nq5⟩ swsq swbd hnN hN b03 bb3 fun H' v6' s' hr' =>
                ⟨_, _, _, _, _, _, _, hstep _ _ swsq swbd (by omega) (by rw [swap_top (by omega) hpl2 hne']; exact hlead) tg3' H' s' hr', rfl⟩
            · have hpn : pl = n := by
                by_cases e : pl = n
                · exact e
                · exfalso
                  have : V.int (pl : Int) ≠ V.int (n : Int) := fun z => e (Int.ofNat.inj (V.int.inj z))
                  simp [this] at hne
              subst hpn
              have tg3' : bareL (N - (pl + 1)) (pl + 1) (clrAll M pl b) s ((row M pl).getD pl 0) = t := by
                rw [← tg3]
                show _ = if pl = pl then _ else _
                rw [if_pos rfl]
              exact rest_run (K := K) s3 hR ⟨qs, h3, nq⟩ sq3 bd3 hnN hN b03 bb3 fun H' v6' s' hr' => ⟨_, _, _, _, _, _, _, hstep _ _ sq3 bd3 ss3 hlead tg3' H' s' hr', rfl⟩
        · rintro σ H3 ⟨M, s, b, v4, v5, v6, v7, DA, rfl⟩
          obtain ⟨s3, _, _, _, _, _, ss3, tg3⟩ := DA
          have e0 : (((ps.map V.ref).length : Int)).toNat = N := by rw [List.length_map]; omega
          rw [e0, Nat.sub_self] at tg3
          refine ⟨_, rfl, _, rfl, _, _, rfl, rfl, .inl ⟨by omega, by omega⟩, ?_⟩
          show Q (.int (s * b)) H3
          rw [show s * b = t from tg3]
          exact q' H3 s3
def spRefused (K : PySem.W.Frag) : Sp := fun vs H Q _ => ∃ (v : V) (d : PyData), vs = [v] ∧ Dp K H v d ∧ (∀ xs, d = .list xs ∨ d = .tuple xs → xs.length ≤ 100 ∧ ∀ r ∈ xs, ∀ zs, r = .list zs ∨ r = .tuple zs → zs.length ≤ 100) ∧ sqr d = false ∧ SeqAt.shaped d = true ∧ ∀ H', Same H H' → Q (.bl true) H'
theorem ok_l_refused (T : Txt K mg) : FnOk P w K mg base CX0 5 T.a_l_refused T.d_l_refused ["_law_value"] (spRefused K) := by
  refine T.l_refused.F.ok sc_l_refused (fun vs H Q E h => ?_) (fun cdv A outer s H vs Q E hr h => ?_)
  · obtain ⟨v, d, rfl, _⟩ := h
    rfl
  · obtain ⟨v, d, rfl, hd, hsz, hsq, hsh, q⟩ := h
    refine ⟨_, (pss_cons (ps_try_as (i := 1) rfl rfl sc_l_refused.nd rfl rfl ⟨rfl, by decide, .inl T.x_InvalidRows.mgC⟩ takes0
      (fun W pn xe tk _ => (pss_one (ps_expr (pe_callS (ok_determinant T) (hr.mono (by decide)) (by rfl) T.determinant.mgf T.determinant.F.kp T.determinant.b (fun σ => passAt tk σ) (pa_cons (pv 0) pa_nil)))))
      (fun a oe cls d pn hz hf => (pss_one (ps_ret (pe_cmpR (kop_eqD (K := K) rfl hr.units) (pe_xf T.x_InvalidRows.xf T.x_InvalidRows.nf hz hf (pv 1)) (pv 0) (nomark _))))))
      (pss_one (ps_ret pe_bl))), ?_⟩
    refine ⟨_, rfl, v, d, rfl, hd, hsz, fun _ x H' hx sx hv => ?_, fun z => by rw [hsq] at z; cases z⟩
    refine ⟨true, T.x_InvalidRows.te, (fun _ a ha => ?_), (fun z => by cases z)⟩
    refine ⟨_, rfl, rfl, rfl, x, _, v, rfl, hv, rfl, _, rfl, d, d, dp_same sx hd, dp_same sx hd, hsh, hsh, ?_⟩
    rw [SeqAt.eqv_refl d (SeqAt.canLay_of_shaped hsh)]
    exact q _ sx
def spIntegerL : Sp := fun vs H Q _ => ∃ i j : Int, vs = [.int i, .int j] ∧ i = j ∧ Q (.bl true) H
theorem ok_l_integer (T : Txt K mg) : FnOk P w K mg base CX0 1 T.a_l_integer T.d_l_integer ["_law_value", "_law_due"] spIntegerL := by
  refine T.l_integer.F.ok sc_l_integer (fun vs H Q E h => ?_) (fun cdv A outer s H vs Q E hr h => ?_)
  · obtain ⟨i, j, rfl, _⟩ := h
    rfl
  · obtain ⟨i, j, rfl, e, q⟩ := h
    refine ⟨_, (pss_one (ps_ret (pe_and (pe_callB (id := "isinstance") (k_isi (K := K) rfl) (by rfl) T.g_isinstance (by decide +kernel) (pa_cons (pv 0) (pa_cons (pe_bltn (v := .ty "int") (by rfl) T.g_int (by decide +kernel) rfl) pa_nil))) (pe_and (pe_not (pe_callB (id := "isinstance") (k_isi (K := K) rfl) (by rfl) T.g_isinstance (by decide +kernel) (pa_cons (pv 0) (pa_cons (pe_bltn (v := .ty "bool") (by rfl) T.g_bool (by decide +kernel) rfl) pa_nil)))) (pe_one (pe_cmpR op_eq (pv 0) (pv 1) (nomark _))))))), ?_⟩
    refine ⟨_, rfl, _, _, _, _, true, rfl, .ty _, .base (.int _), kit_ty (by decide +kernel), _, rfl, ?_⟩
    refine ⟨_, rfl, _, _, _, _, false, rfl, .ty _, .base (.int _), kit_ty (by decide +kernel), _, rfl, _, rfl, ?_⟩
    refine ⟨_, rfl, _, rfl, rfl, ?_⟩
    rw [dec_int, decide_eq_true e]
    exact q
/-! ### the law's own expansion -/
def rowP (r : List Int) : PyData := .list (r.map .int)
def matP (M : Mat) : PyData := .list (M.map rowP)
theorem matP_shp (M : Mat) : Shp 3 (matP M) := shp_list fun d hd => by
  obtain ⟨r, _, rfl⟩ := List.mem_map.mp hd
  exact shp_ints
theorem dp_rows {H : Hp} {R : Addr} {ps : List Addr} {M : Mat} (h : RowsAt H R ps M) : Dp K H (.ref R) (matP M) := by
  refine .lst (SqL.of h.top) (dpAll_mk (by rw [List.length_map, List.length_map, h.len]) fun i v d e1 e2 => ?_)
  obtain ⟨p, hp, rfl⟩ := get_ref e1
  rw [List.getElem?_map] at e2
  cases e3 : M[i]? with
  | none => rw [e3] at e2; cases e2
  | some r =>
    rw [e3] at e2
    have : d = rowP r := (Option.some.inj e2).symm
    rw [this]
    exact .lst (SqL.of (h.cell i p r hp e3)) (dp_ints r)
theorem expd_bd : ∀ (n : Nat) {M : Mat}, n ≤ 4 → Bd 60 M → (expd n M).natAbs < 2 ^ (64 * n + 1)
  | 0, _, _, _ => by show (1 : Int).natAbs < 2 ^ 1; decide
  | n + 1, M, hn, hB => by
    have term : ∀ k : Nat, ((1 - 2 * ((k : Int) % 2)) * (row M 0).getD k 0 * expd n (M.tail.map fun r => r.take k ++ r.drop (k + 1))).natAbs ≤ 2 ^ (60 + (64 * n + 1)) := fun k => by
      have h1 : (expd n (M.tail.map fun r => r.take k ++ r.drop (k + 1))).natAbs < 2 ^ (64 * n + 1) := expd_bd n (by omega) (by
        intro r hr x hx
        obtain ⟨r0, hr0, rfl⟩ := List.mem_map.mp hr
        refine hB r0 (List.mem_of_mem_tail hr0) x ?_
        rcases List.mem_append.mp hx with h | h
        · exact List.mem_of_mem_take h
        · exact List.mem_of_mem_drop h)
      have h2 := hB.at 0 k
      have h3 : (1 - 2 * ((k : Int) % 2)).natAbs = 1 := by omega
      rw [Int.natAbs_mul, Int.natAbs_mul, h3, Nat.one_mul, Nat.pow_add]
      exact Nat.le_of_lt (Nat.mul_lt_mul'' h2 h1)
    have fold : ∀ (l : List Nat) (s : Int), (l.foldl (fun (s : Int) (k : Nat) => s + (1 - 2 * ((k : Int) % 2)) * (row M 0).getD k 0 * expd n (M.tail.map fun r => r.take k ++ r.drop (k + 1))) s).natAbs ≤ s.natAbs + l.length * 2 ^ (60 + (64 * n + 1)) := by
      intro l
      induction l with
      | nil => intro s; simp
      | cons k l ih =>
        intro s
        rw [List.foldl_cons]
        refine Nat.le_trans (ih _) ?_
        have h1 := term k
        have h2 := Int.natAbs_add_le s ((1 - 2 * ((k : Int) % 2)) * (row M 0).getD k 0 * expd n (M.tail.map fun r => r.take k ++ r.drop (k + 1)))
        rw [List.length_cons, Nat.add_mul, Nat.one_mul]
        generalize l.length * 2 ^ (60 + (64 * n + 1)) = z at *
        generalize 2 ^ (60 + (64 * n + 1)) = y at *
        omega
    have h := fold (List.range (n + 1)) 0
    rw [List.length_range] at h
    have e : (2 : Nat) ^ (64 * (n + 1) + 1) = 2 ^ (60 + (64 * n + 1)) * 16 := by
      rw [show (16 : Nat) = 2 ^ 4 by decide, ← Nat.pow_add]
      congr 1
      omega
    unfold expd
    rw [e]
    have p := Nat.two_pow_pos (60 + (64 * n + 1))
    have h5 : (n + 1) * 2 ^ (60 + (64 * n + 1)) ≤ 5 * 2 ^ (60 + (64 * n + 1)) := Nat.mul_le_mul_right _ (by omega)
    simp only [Int.natAbs_zero] at h
    omega
theorem expd_take {n : Nat} {M : Mat} {i : Nat} (h : i < n + 1) :
    (List.range (i + 1)).foldl (fun (s : Int) (k : Nat) => s + (1 - 2 * ((k : Int) % 2)) * (row M 0).getD k 0 * expd n (M.tail.map fun r => r.take k ++ r.drop (k + 1))) 0 =
      (List.range i).foldl (fun (s : Int) (k : Nat) => s + (1 - 2 * ((k : Int) % 2)) * (row M 0).getD k 0 * expd n (M.tail.map fun r => r.take k ++ r.drop (k + 1))) 0 + (1 - 2 * ((i : Int) % 2)) * (row M 0).getD i 0 * expd n (M.tail.map fun r => r.take i ++ r.drop (i + 1)) := by
  rw [List.range_succ, List.foldl_append]
  rfl
def spExp (n : Nat) : Sp := fun vs H Q _ => ∃ (R : Addr) (ps : List Addr) (M : Mat), vs = [.ref R] ∧ RowsAt H R ps M ∧ Sq n M ∧ Bd 60 M ∧ ∀ H', Same H H' → Q (.int (expd n M)) H'
theorem cut_lo {xs : List V} {k : Nat} (h : k ≤ xs.length) : cutV xs (some (k : Int)) none = xs.drop k := by
  unfold cutV
  have e : HT.sIx xs.length 0 (some (k : Int)) = k := by
    show (if (k : Int) < 0 then ((k : Int) + (xs.length : Int)).toNat else min (k : Int).toNat xs.length) = k
    rw [if_neg (by omega)]
    omega
  rw [e]
  exact List.take_of_length_le (by rw [List.length_drop]; exact Nat.le_refl _)
theorem cut_hi {xs : List V} {k : Nat} (h : k ≤ xs.length) : cutV xs none (some (k : Int)) = xs.take k := by
  unfold cutV
  have e : HT.sIx xs.length xs.length (some (k : Int)) = k := by
    show (if (k : Int) < 0 then ((k : Int) + (xs.length : Int)).toNat else min (k : Int).toNat xs.length) = k
    rw [if_neg (by omega)]
    omega
  rw [e]
  rfl
theorem ok_expanded (T : Txt K mg) : ∀ n, n ≤ 4 → FnOk P w K mg base CX0 (n + 1) T.a_l_expanded T.d_l_expanded ["_law_table_here"] (spExp n)
  | 0, _ => by
    refine T.l_expanded.F.ok sc_l_expanded (fun vs H Q E h => ?_) (fun cdv A outer s H vs Q E hr h => ?_)
    · obtain ⟨R, ps, M, rfl, _⟩ := h
      rfl
    · obtain ⟨R, ps, M, rfl, hM, sq, bd, q⟩ := h
      have e := sq0 sq
      subst e
      refine ⟨_, pss_cons (ps_if (pt_cmpR (kop_eqD (K := K) rfl hr.units) (pv 0) (pe_lst pa_nil) (nomark _)) (pss_one (ps_ret pe_int)) pss_nil) pss_never, ?_⟩
      refine ⟨_, rfl, Nat.zero_le _, fun l hl => ?_⟩
      have s1 := same_new (o := .lst []) (Same.refl H) hl
      refine ⟨matP [], .list [], dp_same s1 (dp_rows hM), .lst (SqL.of upd_same) .nil, (matP_shp _).shaped (by decide), by decide, _, rfl, ?_⟩
      exact q _ s1
  | n + 1, hn => by
    have ih := ok_expanded T n (by omega)
    refine T.l_expanded.F.ok sc_l_expanded (fun vs H Q E h => ?_) (fun cdv A outer s H vs Q E hr h => ?_)
    · obtain ⟨R, ps, M, rfl, _⟩ := h
      rfl
    · obtain ⟨R, ps, M, rfl, hM, sq, bd, q⟩ := h
      have hMl := sq.len
      refine ⟨_, (pss_cons (ps_if (pt_cmpR (kop_eqD (K := K) rfl hr.units) (pv 0) (pe_lst pa_nil) (nomark _)) (pss_one (ps_ret pe_int)) pss_nil)
      (pss_cons (ps_set (i := 1) sc_l_expanded.nd rfl (Or.inl rfl) pe_int)
      (pss_cons (ps_for PassesOwn.never (by rfl) (pi_range1 (by rfl) T.g_range (pa_cons (pe_callB (id := "len") (k_len (K := K) rfl) (by rfl) T.g_len (by decide +kernel) (pa_cons (pv 0) pa_nil)) pa_nil)) (pg_name (i := 2) sc_l_expanded.nd rfl (Or.inr rfl))
      (pss_cons (ps_setLc (own := [("_law_row", 4)]) (i := 3) (by rfl) sc_l_expanded.nd rfl rfl (sw_true rfl rfl rfl (by decide +kernel)) (kpi_list (K := K) rfl (pe_slice (ksl_list (K := K) rfl) (pv 0) (po_some pe_int) po_none)) (blkOk_by (own := [("_law_row", 4)]) (N := n_l_expanded) (sc := defScope s_l_expanded) (by decide +kernel)) (fun _ _ _ _ _ => by exact (pg_name (i := 4) sc_l_expanded.nd rfl (Or.inl rfl))) (fun _ _ _ _ _ => by exact pts_nil) (fun _ _ _ _ _ => by exact (pe_op op_cat (pe_slice (ksl_list (K := K) rfl) (pv 4) po_none (po_some (pv 2))) (pe_slice (ksl_list (K := K) rfl) (pv 4) (po_some (pe_op op_add (pv 2) pe_int)) po_none))))
      (pss_one (ps_set (i := 1) sc_l_expanded.nd rfl (Or.inl rfl) (pe_op op_add (pv 1) (pe_op op_mulW (pe_op op_mul (pe_op op_sub pe_int (pe_op op_mul pe_int (pe_op op_mod (pe_callTy (T := "int") call_int1 (by rfl) T.g_int (by decide +kernel) (pa_cons (pv 2) pa_nil)) pe_int))) (pe_ix (kix_list (K := K) rfl) (pe_ix (kix_list (K := K) rfl) (pv 0) pe_int (fun _ _ => rfl)) (pv 2) (fun _ _ => rfl))) (pe_call ih (hr.mono (by omega)) (by rfl) T.l_expanded.mgf T.l_expanded.F.kp T.l_expanded.b .nil pass0 (pa_cons (pv 3) pa_nil))))))))
      (pss_one (ps_ret (pv 1)))))), ?_⟩
      refine ⟨_, rfl, Nat.zero_le _, fun l hl => ?_⟩
      have s1 := same_new (o := .lst []) (Same.refl H) hl
      refine ⟨matP M, .list [], dp_same s1 (dp_rows hM), .lst (SqL.of upd_same) .nil, (matP_shp _).shaped (by decide), by decide, _, rfl, ?_⟩
      refine iteBF (by cases M with | nil => simp at hMl | cons r M => rfl) ?_
      have hM1 := hM.same s1
      refine ⟨_, rfl, R, _, rfl, .inl (SqL.of hM1.top), _, rfl, by rw [List.length_map, hM.len]; omega, by rw [List.length_map, hM.len]; omega, ?_⟩
      refine for_range (lo := 0) (fun i σ H' => Same H H' ∧ ∃ v2 v3 v4, σ = [some (.ref R), some (.int ((List.range i).foldl (fun (s : Int) (k : Nat) => s + (1 - 2 * ((k : Int) % 2)) * (row M 0).getD k 0 * expd n (M.tail.map fun r => r.take k ++ r.drop (k + 1))) 0)), v2, v3, v4]) ⟨s1, _, _, _, rfl⟩ ?_ ?_
      · rintro i σ H2 hi ⟨s2, v2, v3, v4, rfl⟩
        rw [Int.zero_add]
        have hi2 : i < n + 1 := by rw [List.length_map, hM.len, hMl] at hi; omega
        have hM2 := hM.same s2
        have hpl : ps.length = n + 1 := by rw [hM.len, hMl]
        refine ⟨_, rfl, _, rfl, R, _, rfl, SqL.of hM2.top, fun S hS => ?_⟩
        have s3 := same_new (o := .lst (cutV (ps.map V.ref) (some 1) none)) s2 hS
        have ec : cutV (ps.map V.ref) (some 1) none = ps.tail.map V.ref := by
          have z := cut_lo (xs := ps.map V.ref) (k := 1) (by rw [List.length_map]; omega)
          rw [List.drop_one] at z
          rw [List.map_tail]
          exact z
        refine ⟨S, rfl, ⟨_, SqL.of upd_same⟩, fun L hL => ?_⟩
        have hS3 : SqL K (upd H2 S (.lst (cutV (ps.map V.ref) (some 1) none))) S (ps.tail.map V.ref) := SqL.of (by rw [upd_same, ec])
        have wk := (walk_list (K := K) (a := S) (xs := ps.tail.map V.ref)).mono (G' := fun H' => Same (upd H2 S (.lst (cutV (ps.map V.ref) (some 1) none))) H') (fun H' s' => s'.seq hS3) fun _ _ _ _ _ _ y => y
        refine lc_same wk hL (by rw [List.length_map, List.length_tail]; omega) (fun _ z => z) (fun j y Hw => ∃ p, y = V.ref p ∧ ∃ r, M.tail[j]? = some r ∧ Hw p = some (.lst ((r.take i ++ r.drop (i + 1)).map V.int))) (fun i y Ha Hb sab ⟨p, e1, e, e2, e3⟩ => ⟨p, e1, e, e2, sab _ _ e3⟩) ?_ ?_
        · rintro j x H4 H4' k hj s4 ⟨acc, hacc⟩ ⟨rfl, hx⟩ hk
          obtain ⟨p, hp, rfl⟩ := get_ref hx
          have hp' : ps[j + 1]? = some p := by rw [← List.getElem?_tail]; exact hp
          have hjM : j + 1 < M.length := by have := (List.getElem?_eq_some_iff.mp hp').1; omega
          have hr := hM.cell (j + 1) p _ hp' (List.getElem?_eq_getElem hjM)
          have hrl : (M[j + 1]).length = n + 1 := sq.row _ (List.getElem_mem hjM)
          have hp4 := s4 _ _ (s3 _ _ hr)
          refine ⟨rfl, _, rfl, _, rfl, _, rfl, p, _, rfl, SqL.of hp4, fun q1 hq1 => ?_⟩
          have s5 := same_new (o := .lst (cutV ((M[j + 1]).map V.int) none (some (i : Int)))) (Same.refl H4') hq1
          refine ⟨_, rfl, _, rfl, _, _, rfl, rfl, _, rfl, p, _, rfl, SqL.of (s5 _ _ hp4), fun q2 hq2 => ?_⟩
          have s6 := same_new (o := .lst (cutV ((M[j + 1]).map V.int) (some ((i : Int) + 1)) none)) s5 hq2
          have e1 : cutV ((M[j + 1]).map V.int) none (some (i : Int)) = ((M[j + 1]).take i).map V.int := by rw [cut_hi (by rw [List.length_map]; omega), List.map_take]
          have e2 : cutV ((M[j + 1]).map V.int) (some ((i : Int) + 1)) none = ((M[j + 1]).drop (i + 1)).map V.int := by
            rw [show ((i : Int) + 1) = ((i + 1 : Nat) : Int) by omega, cut_lo (by rw [List.length_map]; omega), List.map_drop]
          refine ⟨q1, q2, _, _, rfl, rfl, by rw [upd_ne (ne_of_none upd_same hq2), upd_same], upd_same, ?_, fun q3 hq3 => ?_⟩
          · rw [e1, e2, List.length_map, List.length_map, List.length_take, List.length_drop]
            exact Nat.le_trans (show min i _ + (_ - (i + 1)) ≤ 100 by omega) (by decide)
          · refine hk _ _ (same_new s6 hq3) ⟨q3, rfl, M[j + 1], ?_, ?_⟩
            · rw [List.getElem?_tail, List.getElem?_eq_getElem hjM]
            · have n3 : q3 ≠ L := (ne_of_none (s6 _ _ hacc) hq3).symm
              rw [wo_ne n3, upd_same, e1, e2, List.map_append]
        · intro ys H4 hyl hyr s4 hy
          obtain ⟨qs, rfl, hqs⟩ := refs_of hyr
          have hrest : RowsAt H4 L qs (M.tail.map fun r => r.take i ++ r.drop (i + 1)) := by
            refine ⟨hy, by rw [List.length_map] at hyl; rw [hyl, List.length_map, List.length_map, List.length_tail, List.length_tail, hM.len], fun j p r e1 e2 => ?_⟩
            obtain ⟨e, he, h3⟩ := hqs j p e1
            rw [List.getElem?_map, he] at e2
            have : r = e.take i ++ e.drop (i + 1) := (Option.some.inj e2).symm
            rw [this]
            exact wo_same _ _ h3
          have sqR : Sq n (M.tail.map fun r => r.take i ++ r.drop (i + 1)) := by
            refine ⟨by rw [List.length_map, List.length_tail, hMl]; rfl, fun r hr => ?_⟩
            obtain ⟨e, he, rfl⟩ := List.mem_map.mp hr
            have := sq.row e (List.mem_of_mem_tail he)
            rw [List.length_append, List.length_take, List.length_drop, this]
            omega
          have bdR : Bd 60 (M.tail.map fun r => r.take i ++ r.drop (i + 1)) := by
            intro r hr x hx
            obtain ⟨e, he, rfl⟩ := List.mem_map.mp hr
            refine bd e (List.mem_of_mem_tail he) x ?_
            rcases List.mem_append.mp hx with h | h
            · exact List.mem_of_mem_take h
            · exact List.mem_of_mem_drop h
          have s04 := s3.trans s4
          have hM4 := hM.same s04
          obtain ⟨p0, hp1, hp2, hp3⟩ := hM4.get (i := 0) (by omega)
          have hr0 := sq.row _ (row_mem (M := M) (i := 0) (by omega))
          refine ⟨_, rfl, _, rfl, .inl ⟨_, rfl, _, _, rfl, rfl, (by show (0 : Int) < 2; decide), _, _, rfl, rfl, .inl ⟨by decide, by decide⟩, _, _, rfl, rfl, ?_⟩⟩
          refine ⟨_, rfl, R, _, _, _, rfl, rfl, SqL.of hM4.top, hp3, _, rfl, p0, _, _, _, rfl, rfl, SqL.of hp2, at_int (by omega), _, _, rfl, rfl, .inl ⟨by omega, by omega⟩, ?_⟩
          refine ⟨_, rfl, L, qs, _, rfl, hrest, sqR, bdR, fun H5 s5 => ?_⟩
          have hb1 := bd.at 0 i
          have hb2 := expd_bd n (by omega) bdR
          have hm : ((1 - 2 * ((i : Int) % 2)) * (row M 0).getD i 0).natAbs < 2 ^ 60 := by
            rw [Int.natAbs_mul, show (1 - 2 * ((i : Int) % 2)).natAbs = 1 by omega, Nat.one_mul]
            exact hb1
          refine ⟨_, _, rfl, rfl, wide_mul hm hb2 (by decide) (by omega) (by omega), _, _, rfl, rfl, ?_⟩
          refine ⟨s04.trans s5, some (.int (i : Int)), some (.ref L), v4, ?_⟩
          rw [expd_take hi2]
          rfl
      · rintro σ H2 ⟨s2, v2, v3, v4, rfl⟩
        have e : (((ps.map V.ref).length : Int)).toNat = n + 1 := by rw [List.length_map, hM.len, hMl]; omega
        rw [e]
        exact ⟨_, rfl, q _ s2⟩

def spTable : Sp := fun vs H Q _ => ∃ p : Addr, vs = [.ref p] ∧ Pool H p ∧ ∀ (R : Addr) (ps : List Addr) (M : Mat) (n : Nat) (H' : Hp), n ≤ 4 → Sq n M → Bd 42 M → H R = none → Dr p H H' → RowsAt H' R ps M → (∀ q ∈ ps, H q = none ∧ q ≠ R ∧ q ≠ p) → Q (.ref R) H'
def tTab (K : PySem.W.Frag) : TS :=
  tSeq (tAsg (tLc (iRng1 (tCons (tVar 1) tNil)) (gName 6) tYes (tLc (iRng1 (tCons (tVar 1) tNil)) (gName 7) tYes
      (tOp (rI0 fun i j => V.int (i - j)) (tCall spDraw [] E0 (tCons (tVar 0) (tCons (tOp (rI0 fun i j => V.int (i + j)) (tOp (rI CMul fun i j => V.int (i * j)) (tC (V.int 2)) (tVar 3)) (tC (V.int 1))) tNil))) (tVar 3))
      (List.map (fun x => x.snd) [(Str.ofString "_law_column", 7)])) (List.map (fun x => x.snd) [(Str.ofString "_law_row", 6)])) (gName 4))
  (tSeq (tIfS (tAnd (tTest (tOp (rI0 fun i j => V.bl (decide (j < i))) (tVar 1) (tC (V.int 0)))) (tTest (tOp rEq (tCall spDraw [] E0 (tCons (tVar 0) (tCons (tC (V.int 4)) tNil))) (tC (V.int 0)))))
    (tSeq (tAsg (tOp (rI0 fun i j => V.int (i - j)) (tCall spDraw [] E0 (tCons (tVar 0) (tCons (tC (V.int 5)) tNil))) (tC (V.int 2))) (gName 5))
      (tAsg (tLc (iList K (tOp (rIxL K) (tVar 4) (tC (V.int 0)))) (gName 8) tYes (tOp (rI CMul fun i j => V.int (i * j)) (tVar 5) (tVar 8)) (List.map (fun x => x.snd) [(Str.ofString "_law_one", 8)])) (gSub (tVar 4) (tUn (rU fun i => V.int (-i)) (tC (V.int 1))) rSetL))) tNext) (tRet (tVar 4)))
theorem ints_of_list : ∀ {ys : List V} {P : Int → Prop}, (∀ (i : Nat) (y : V), ys[i]? = some y → ∃ x, y = .int x ∧ P x) → ∃ r : List Int, ys = r.map V.int ∧ ∀ x ∈ r, P x
  | [], _, _ => ⟨[], rfl, fun x h => by cases h⟩
  | y :: ys, P, h => by
    obtain ⟨x, e, hx⟩ := h 0 y rfl
    obtain ⟨r, e2, h2⟩ := ints_of_list (ys := ys) (P := P) fun i z ez => h (i + 1) z (by simpa using ez)
    refine ⟨x :: r, by rw [e, e2]; rfl, fun z hz => ?_⟩
    rcases List.mem_cons.mp hz with h | h
    · rw [h]; exact hx
    · exact h2 z h
/-- the rows of a list of places, each one told -/
theorem rows_of {H : Hp} {Pp : List Int → Addr → Prop} : ∀ {ps : List Addr}, (∀ p ∈ ps, ∃ r : List Int, H p = some (.lst (r.map V.int)) ∧ Pp r p) → ∃ M : Mat, M.length = ps.length ∧ (∀ (i : Nat) p r, ps[i]? = some p → M[i]? = some r → H p = some (.lst (r.map V.int)) ∧ Pp r p)
  | [], _ => ⟨[], rfl, fun i p r e => by simp at e⟩
  | p :: ps, h => by
    obtain ⟨r, h1, h2⟩ := h p List.mem_cons_self
    obtain ⟨M, e, hM⟩ := rows_of (ps := ps) fun q hq => h q (List.mem_cons_of_mem _ hq)
    refine ⟨r :: M, by rw [List.length_cons, List.length_cons, e], fun i q t e1 e2 => ?_⟩
    cases i with
    | zero =>
      have a1 : p = q := by simpa using e1
      have a2 : r = t := by simpa using e2
      rw [← a1, ← a2]
      exact ⟨h1, h2⟩
    | succ i => exact hM i q t (by simpa using e1) (by simpa using e2)
theorem tab_run {H H1 : Hp} {p : Addr} {n most : Int} {v2 v4 v5 v6 v7 v8 : Option V} {Q : VK} (D1 : Dr p H H1) (n0 : 0 ≤ n) (n1 : n < 5) (m0 : 0 < most) (m1 : most ≤ 1000000000000)
    (q : ∀ (R : Addr) (ps : List Addr) (M : Mat) (n : Nat) (H' : Hp), n ≤ 4 → Sq n M → Bd 42 M → H R = none → Dr p H H' → RowsAt H' R ps M → (∀ q ∈ ps, H q = none ∧ q ≠ R ∧ q ≠ p) → Q (.ref R) H') :
    tTab K { nx := fun _ H' => Q .non H', rt := Q } [some (.ref p), some (.int n), v2, some (.int most), v4, v5, v6, v7, v8] H1 := by
  refine ⟨_, rfl, n, rfl, by omega, by omega, fun L hL => ?_⟩
  have nL := D1.free hL
  refine lc_dr (walk_range (lo := 0) (n := n.toNat)) D1.2 hL (by omega) (fun _ _ => trivial) (fun i y Hw => ∃ c, y = V.ref c ∧ c ≠ p ∧ H1 c = none ∧ ∃ r : List Int, Hw c = some (.lst (r.map V.int)) ∧ r.length = n.toNat ∧ ∀ x ∈ r, x.natAbs < 2 ^ 41) (fun i y Ha Hb kab ⟨c, e1, e2, e3, r, e4, e5⟩ => ⟨c, e1, e2, e3, r, kab _ _ e2 e4, e5⟩) ?_ ?_
  · rintro i x H2 H2' k hi D2 ⟨acc, hacc⟩ ⟨rfl, rfl⟩ hk
    refine ⟨rfl, ?_⟩
    refine ⟨_, rfl, n, rfl, by omega, by omega, fun L2 hL2 => ?_⟩
    have nL2 := D2.free hL2
    refine lc_dr (walk_range (lo := 0) (n := n.toNat)) D2.2 hL2 (by omega) (fun _ _ => trivial) (fun i y Hw => ∃ x, y = V.int x ∧ x.natAbs < 2 ^ 41) (fun _ _ _ _ _ z => z) ?_ ?_
    · rintro j z H3 H3' k2 hj D3 _ ⟨rfl, rfl⟩ hk2
      refine ⟨rfl, ?_⟩
      refine ⟨_, rfl, _, rfl, _, _, rfl, rfl, .inl ⟨by decide, by decide⟩, _, _, rfl, rfl, p, _, rfl, D3.2, by omega, by omega, fun d H4 d0 d1 D4 => ?_⟩
      refine ⟨_, rfl, _, _, rfl, rfl, hk2 _ _ D4 ⟨_, rfl, ?_⟩⟩
      have : (2 : Nat) ^ 41 = 2199023255552 := by decide
      rw [this]
      omega
    · intro zs H3 hzl hzr D3 hz
      obtain ⟨r, rfl, hr⟩ := ints_of_list hzr
      have nLL : L2 ≠ L := (ne_of_none hacc hL2).symm
      refine hk _ _ D3 ⟨L2, rfl, nL2.1, nL2.2, r, ?_, by rw [List.length_map] at hzl; exact hzl, hr⟩
      rw [wo_ne nLL]
      exact hz
  · intro ys H2 hyl hyr D2 hy
    obtain ⟨ps, rfl, hps⟩ := refs_of hyr
    have hpl : ps.length = n.toNat := by rw [List.length_map] at hyl; exact hyl
    obtain ⟨M, hMl, hM⟩ := rows_of (H := H2) (ps := ps) (Pp := fun r c => c ≠ p ∧ H1 c = none ∧ c ≠ L ∧ r.length = n.toNat ∧ ∀ x ∈ r, x.natAbs < 2 ^ 41) fun c hc => by
      obtain ⟨i, hi⟩ := List.mem_iff_getElem?.mp hc
      obtain ⟨e2, e3, r, e4, e5, e6⟩ := hps i c hi
      refine ⟨r, wo_same _ _ e4, e2, e3, ?_, e5, e6⟩
      intro e
      rw [e, show wo H2 L L = none from if_pos rfl] at e4
      cases e4
    have get : ∀ r ∈ M, r.length = n.toNat ∧ ∀ x ∈ r, x.natAbs < 2 ^ 41 := fun r hr => by
      obtain ⟨i, hi⟩ := List.mem_iff_getElem?.mp hr
      have hip : i < ps.length := by have := (List.getElem?_eq_some_iff.mp hi).1; omega
      exact (hM i _ r (List.getElem?_eq_getElem hip) hi).2.2.2.2
    have sq : Sq n.toNat M := ⟨by omega, fun r hr => (get r hr).1⟩
    have bd : Bd 42 M := fun r hr x hx => Nat.lt_trans ((get r hr).2 x hx) (by decide)
    have rows : RowsAt H2 L ps M := ⟨hy, hMl.symm, fun i c r e1 e2 => (hM i c r e1 e2).1⟩
    have fr : ∀ c ∈ ps, H c = none ∧ c ≠ L ∧ c ≠ p := fun c hc => by
      obtain ⟨i, hi⟩ := List.mem_iff_getElem?.mp hc
      have hiM : i < M.length := by have := (List.getElem?_eq_some_iff.mp hi).1; omega
      obtain ⟨a1, a2, a3, _⟩ := (hM i c _ hi (List.getElem?_eq_getElem hiM)).2
      exact ⟨(D1.free a2).2, a3, a1⟩
    have D12 := D1.trans D2
    refine ⟨_, rfl, _, _, rfl, rfl, _, rfl, ?_⟩
    refine iteB (fun hc => ?_) (fun hc => ?_)
    · have hn : 0 < n := of_decide_eq_true hc
      refine ⟨_, rfl, p, _, rfl, D2.2, by decide, by decide, fun z H3 z0 z1 D3 => ⟨rfl, _, rfl, ?_⟩⟩
      have rows3 : RowsAt H3 L ps M := ⟨D3.1 _ _ nL.1 hy, rows.len, fun i c r e1 e2 => D3.1 _ _ (fr c (List.mem_of_getElem? e1)).2.2 (rows.cell i c r e1 e2)⟩
      refine iteB (fun _ => ?_) (fun _ => ?_)
      · refine ⟨_, rfl, p, _, rfl, D3.2, by decide, by decide, fun t H4 t0 t1 D4 => ⟨_, _, rfl, rfl, ?_⟩⟩
        have rows4 : RowsAt H4 L ps M := ⟨D4.1 _ _ nL.1 rows3.top, rows.len, fun i c r e1 e2 => D4.1 _ _ (fr c (List.mem_of_getElem? e1)).2.2 (rows3.cell i c r e1 e2)⟩
        obtain ⟨c0, hc1, hc2, hc3⟩ := rows4.get (i := 0) (by rw [sq.len]; omega)
        have D14 := (D12.trans D3).trans D4
        refine ⟨_, rfl, L, _, _, _, rfl, rfl, SqL.of rows4.top, hc3, c0, rfl, ⟨_, SqL.of hc2⟩, fun L3 hL3 => ?_⟩
        have hr0 := get _ (row_mem (M := M) (i := 0) (by rw [sq.len]; omega))
        have wk := (walk_list (K := K) (a := c0) (xs := (row M 0).map V.int)).mono (G' := fun H' => Same H4 H') (fun H' s' => s'.seq (SqL.of hc2)) fun _ _ _ _ _ _ y => y
        refine lc_same wk hL3 (by rw [List.length_map]; omega) (fun _ z => z) (fun i y Hw => ∃ u, (row M 0)[i]? = some u ∧ y = V.int ((t - 2) * u)) (fun _ _ _ _ _ z => z) ?_ ?_
        · rintro i x H5 H5' k hi s5 _ ⟨rfl, hx⟩ hk
          obtain ⟨u, hu, rfl⟩ := get_int hx
          exact ⟨rfl, _, rfl, _, rfl, _, _, rfl, rfl, .inl ⟨by omega, by omega⟩, hk _ _ (Same.refl _) ⟨u, hu, rfl⟩⟩
        · intro zs H5 hzl hzr s5 hz
          have ez : zs = ((row M 0).map fun u => (t - 2) * u).map V.int := by
            apply List.ext_getElem?
            intro i
            by_cases hi : i < zs.length
            · obtain ⟨u, h1, h2⟩ := hzr i _ (List.getElem?_eq_getElem hi)
              rw [List.getElem?_eq_getElem hi, List.getElem?_map, List.getElem?_map, h1, h2]
              rfl
            · rw [List.getElem?_eq_none (by omega), List.getElem?_eq_none (by rw [List.length_map, List.length_map]; rw [List.length_map] at hzl; omega)]
          subst ez
          have rows5 := rows4.same s5
          have n3 := D14.free hL3
          have n3L : L3 ≠ L := (ne_of_none rows4.top hL3).symm
          have hix : ixN (ps.map V.ref).length (-1) = some (n.toNat - 1) := by
            unfold ixN
            rw [if_neg (by decide), if_pos (by rw [List.length_map]; omega), List.length_map, hpl]
            congr 1
            omega
          refine ⟨_, rfl, _, rfl, L, _, _, _, rfl, rfl, rows5.top, hix, ?_⟩
          refine ⟨_, rfl, ?_⟩
          have rows6 := rows5.set (i := n.toNat - 1) (p := L3) hz n3L fun c hc => (fr c hc).2.1
          refine q L _ _ n.toNat _ (by omega) ⟨by rw [List.length_set, sq.len], fun r hr => ?_⟩ (fun r hr x hx => ?_) nL.2 ((D14.same s5).mut nL) rows6 fun c hc => ?_
          · rcases List.mem_or_eq_of_mem_set hr with h | h
            · exact sq.row r h
            · rw [h, List.length_map]
              exact hr0.1
          · rcases List.mem_or_eq_of_mem_set hr with h | h
            · exact bd r h x hx
            · rw [h] at hx
              obtain ⟨u, hu, rfl⟩ := List.mem_map.mp hx
              have hub := hr0.2 u hu
              rw [Int.natAbs_mul]
              have e2 : (t - 2).natAbs ≤ 2 := by omega
              have e3 : (2 : Nat) ^ 42 = 2 * 2 ^ 41 := by decide
              rw [e3]
              have e4 := Nat.mul_le_mul_right u.natAbs e2
              omega
          · rcases List.mem_or_eq_of_mem_set hc with h | h
            · exact fr c h
            · rw [h]
              exact ⟨n3.2, n3L, n3.1⟩
      · refine ⟨_, rfl, ?_⟩
        exact q L ps M n.toNat H3 (by omega) sq bd nL.2 (D12.trans D3) rows3 fr
    · show if false = true then _ else _
      rw [if_neg Bool.false_ne_true]
      refine ⟨_, rfl, ?_⟩
      exact q L ps M n.toNat H2 (by omega) sq bd nL.2 D12 rows fr
theorem ok_l_table (T : Txt K mg) : FnOk P w K mg base CX0 2 T.a_l_table T.d_l_table ["_law_pool_here"] spTable := by
  refine T.l_table.F.ok sc_l_table (fun vs H Q E h => ?_) (fun cdv A outer s H vs Q E hr h => ?_)
  · obtain ⟨p, rfl, _⟩ := h
    rfl
  · obtain ⟨p, rfl, hp, q⟩ := h
    refine ⟨_, (pss_cons (ps_asg (pe_tup (pa_cons (pe_call (ok_l_draw T) (hr.mono (by decide)) (by rfl) T.l_draw.mgf T.l_draw.F.kp T.l_draw.b .nil pass0 (pa_cons (pv 0) (pa_cons pe_int pa_nil))) (pa_cons (pe_cmpR op_eq (pe_call (ok_l_draw T) (hr.mono (by decide)) (by rfl) T.l_draw.mgf T.l_draw.F.kp T.l_draw.b .nil pass0 (pa_cons (pv 0) (pa_cons pe_int pa_nil))) pe_int (nomark _)) pa_nil))) (kpg_tup (K := K) (n := 2) rfl (by rfl) (pgs_cons (pg_name (i := 1) sc_l_table.nd rfl (Or.inr rfl)) (pgs_cons (pg_name (i := 2) sc_l_table.nd rfl (Or.inl rfl)) pgs_nil))))
      (pss_cons (ps_set (i := 3) sc_l_table.nd rfl (Or.inr rfl) (pe_ifExp (pt_val (pv 2)) (pe_op op_pow pe_int pe_int) pe_int))
      (pss_cons (ps_setLc (own := [("_law_row", 6)]) (i := 4) (by rfl) sc_l_table.nd rfl rfl (sw_true rfl rfl rfl (by decide +kernel)) (pi_range1 (by rfl) T.g_range (pa_cons (pv 1) pa_nil)) (blkOk_by (own := [("_law_row", 6)]) (N := n_l_table) (sc := defScope s_l_table) (by decide +kernel)) (fun _ _ _ _ _ => by exact (pg_name (i := 6) sc_l_table.nd rfl (Or.inl rfl))) (fun _ _ _ _ _ => by exact pts_nil) (fun _ _ _ _ _ => by exact (pe_lc (own := [("_law_column", 7)]) (by rfl) sc_l_table.nd (by exact (pi_range1 (by rfl) T.g_range (pa_cons (pv 1) pa_nil))) (blkOk_by (own := [("_law_column", 7)]) (N := n_l_table) (sc := { kind := .function, names := [(".0", .local), ("_law_row", .local), ("range", .globalImplicit), ("_law_many", .cell), ("_law_most", .cell), ("_law_pool_here", .cell)], isGenerator := false, isCoroutine := false, more := [] }) (by decide +kernel)) (fun _ _ _ _ _ => by exact (pg_name (i := 7) sc_l_table.nd rfl (Or.inl rfl))) (fun _ _ _ _ _ => by exact pts_nil) (fun _ _ _ _ _ => by exact (pe_op op_sub (pe_call (ok_l_draw T) (hr.mono (by decide)) (by rfl) T.l_draw.mgf T.l_draw.F.kp T.l_draw.b .nil pass0 (pa_cons (pv 0) (pa_cons (pe_op op_add (pe_op op_mul pe_int (pv 3)) pe_int) pa_nil))) (pv 3))))))
      (pss_cons (ps_if (PW.pt (pw_and (pt_cmpR op_gt (pv 1) pe_int (nomark _)) (pw_and1 (pt_cmpR op_eq (pe_call (ok_l_draw T) (hr.mono (by decide)) (by rfl) T.l_draw.mgf T.l_draw.F.kp T.l_draw.b .nil pass0 (pa_cons (pv 0) (pa_cons pe_int pa_nil))) pe_int (nomark _))))) (pss_cons (ps_set (i := 5) sc_l_table.nd rfl (Or.inr rfl) (pe_op op_sub (pe_call (ok_l_draw T) (hr.mono (by decide)) (by rfl) T.l_draw.mgf T.l_draw.F.kp T.l_draw.b .nil pass0 (pa_cons (pv 0) (pa_cons pe_int pa_nil))) pe_int))
      (pss_one (ps_asg (pe_lc (own := [("_law_one", 8)]) (by rfl) sc_l_table.nd (kpi_list (K := K) rfl (pe_ix (kix_list (K := K) rfl) (pv 4) pe_int (fun _ _ => rfl))) (blkOk_by (own := [("_law_one", 8)]) (N := n_l_table) (sc := defScope s_l_table) (by decide +kernel)) (fun _ _ _ _ _ => by exact (pg_name (i := 8) sc_l_table.nd rfl (Or.inl rfl))) (fun _ _ _ _ _ => by exact pts_nil) (fun _ _ _ _ _ => by exact (pe_op op_mul (pv 5) (pv 8)))) (pg_sub (pv 4) (pe_un un_neg pe_int) set_list)))) pss_nil)
      (pss_one (ps_ret (pv 4))))))), ?_⟩
    refine ⟨_, rfl, p, _, rfl, hp, by decide, by decide, fun n H1 n0 n1 D1 => ?_⟩
    refine ⟨_, rfl, p, _, rfl, D1.2, by decide, by decide, fun z H2 z0 z1 D2 => ?_⟩
    refine ⟨rfl, (by show 2 ≤ sizeLine; decide), fun t ht => ?_⟩
    have D3 := (D1.trans D2).new (o := .tup [.int n, .bl (decide (V.int z = V.int 0))]) ht
    refine ⟨t, _, rfl, SqT.of upd_same, rfl, _, _, rfl, _, _, rfl, rfl, ?_⟩
    refine ⟨_, rfl, _, rfl, ?_⟩
    refine iteB (fun _ => ?_) (fun _ => ?_)
    · refine ⟨_, _, rfl, rfl, ⟨by decide, by decide, by decide⟩, ?_⟩
      exact tab_run (K := K) D3 n0 n1 (by decide) (by decide) q
    · exact tab_run (K := K) D3 n0 n1 (by decide) (by decide) q
theorem fn_any {N : Nat} {f : Addr} {fd : FuncData} {ps : List Str} {sp : Nat → Sp} (h : ∀ n, n ≤ N → FnOk P w K mg base CX0 (n + 1) f fd ps (sp n)) : FnOk P w K mg base CX0 (N + 1) f fd ps (fun vs H Q E => ∃ n, n ≤ N ∧ sp n vs H Q E) := by
  refine ⟨fun vs H Q E ⟨n, hn, z⟩ => (h n hn).len vs H Q E z, fun A outer s H args us vs Q E hr e0 hb r ⟨n, hn, z⟩ => ?_⟩
  exact (h n hn).run A outer s H args us vs Q E (hr.mono (by omega)) e0 hb r z
def spExpA : Sp := fun vs H Q E => ∃ n, n ≤ 4 ∧ spExp n vs H Q E
theorem ok_l_expanded (T : Txt K mg) : FnOk P w K mg base CX0 5 T.a_l_expanded T.d_l_expanded ["_law_table_here"] spExpA := fn_any fun n hn => ok_expanded T n hn
/-! ### the law's parts -/
def rowT (r : List Int) : PyData := .tuple (r.map .int)
def matT (M : Mat) : PyData := .tuple (M.map rowT)
theorem map_iOf (r : List Int) : (r.map PyData.int).map iOf = r := by rw [List.map_map]; exact List.map_id r
theorem all_int (r : List Int) : (r.map PyData.int).all isI = true := by rw [List.all_map]; exact List.all_eq_true.mpr fun x _ => rfl
theorem rowP_ok {n : Nat} {r : List Int} (h : r.length = n) : rowOk n (rowP r) = true := by
  show (((r.map PyData.int).length == n) && (r.map PyData.int).all isI) = true
  rw [all_int, List.length_map, h, beq_self_eq_true]
  rfl
theorem rowT_ok {n : Nat} {r : List Int} (h : r.length = n) : rowOk n (rowT r) = true := rowP_ok h
theorem matP_sqr {n : Nat} {M : Mat} (h : Sq n M) : sqr (matP M) = true := by
  show (M.map rowP).all (rowOk (M.map rowP).length) = true
  rw [List.length_map, List.all_map]
  exact List.all_eq_true.mpr fun r hr => rowP_ok (by rw [h.len]; exact h.row r hr)
theorem matT_sqr {n : Nat} {M : Mat} (h : Sq n M) : sqr (matT M) = true := by
  show (M.map rowT).all (rowOk (M.map rowT).length) = true
  rw [List.length_map, List.all_map]
  exact List.all_eq_true.mpr fun r hr => rowT_ok (by rw [h.len]; exact h.row r hr)
theorem matP_mat (M : Mat) : matD (matP M) = M := by
  show (M.map rowP).map rowI = M
  rw [List.map_map]
  conv => rhs; rw [← List.map_id M]
  exact List.map_congr_left fun r _ => by show rowI (.list _) = r; rw [rowI_list, map_iOf]
theorem matT_mat (M : Mat) : matD (matT M) = M := by
  show (M.map rowT).map rowI = M
  rw [List.map_map]
  conv => rhs; rw [← List.map_id M]
  exact List.map_congr_left fun r _ => by show rowI (.tuple _) = r; rw [rowI_tuple, map_iOf]
/-- no list in it has more than a hundred items -/
def Few (d : PyData) : Prop := ∀ xs, d = .list xs ∨ d = .tuple xs → xs.length ≤ 100 ∧ ∀ r ∈ xs, ∀ zs, r = .list zs ∨ r = .tuple zs → zs.length ≤ 100
theorem few_list {ds : List PyData} (h1 : ds.length ≤ 100) (h2 : ∀ r ∈ ds, ∀ zs, r = .list zs ∨ r = .tuple zs → zs.length ≤ 100) : Few (.list ds) := fun xs e => by
  rcases e with e | e
  · cases e; exact ⟨h1, h2⟩
  · cases e
theorem few_tuple {ds : List PyData} (h1 : ds.length ≤ 100) (h2 : ∀ r ∈ ds, ∀ zs, r = .list zs ∨ r = .tuple zs → zs.length ≤ 100) : Few (.tuple ds) := fun xs e => by
  rcases e with e | e
  · cases e
  · cases e; exact ⟨h1, h2⟩
theorem few_rowP {r : List Int} (h : r.length ≤ 100) : ∀ zs, rowP r = .list zs ∨ rowP r = .tuple zs → zs.length ≤ 100 := fun zs e => by
  rcases e with e | e
  · cases e; rw [List.length_map]; exact h
  · cases e
theorem few_rowT {r : List Int} (h : r.length ≤ 100) : ∀ zs, rowT r = .list zs ∨ rowT r = .tuple zs → zs.length ≤ 100 := fun zs e => by
  rcases e with e | e
  · cases e
  · cases e; rw [List.length_map]; exact h
theorem matP_few {n : Nat} {M : Mat} (h : Sq n M) (hn : n ≤ 4) : Few (matP M) := few_list (by rw [List.length_map, h.len]; omega) fun r hr => by
  obtain ⟨x, hx, rfl⟩ := List.mem_map.mp hr
  exact few_rowP (by rw [h.row x hx]; omega)
theorem matT_few {n : Nat} {M : Mat} (h : Sq n M) (hn : n ≤ 4) : Few (matT M) := few_tuple (by rw [List.length_map, h.len]; omega) fun r hr => by
  obtain ⟨x, hx, rfl⟩ := List.mem_map.mp hr
  exact few_rowT (by rw [h.row x hx]; omega)
theorem det_go {H : Hp} {v : V} {d : PyData} {M : Mat} {n : Nat} {Q : VK} {E : XK} {C : Addr} (hd : Dp K H v d) (e : d = matP M ∨ d = matT M) (sq : Sq n M) (hn : n ≤ 4) (bd : Bd 60 M) (q : ∀ H', Same H H' → Q (.int (expd n M)) H') : spDet K C [v] H Q E := by
  have hm : matD d = M := by rcases e with e | e <;> rw [e]; exact matP_mat M; exact matT_mat M
  have hs : sqr d = true := by rcases e with e | e <;> rw [e]; exact matP_sqr sq; exact matT_sqr sq
  have hf : Few d := by rcases e with e | e <;> rw [e]; exact matP_few sq hn; exact matT_few sq hn
  refine ⟨v, d, rfl, hd, hf, (fun z => by rw [hs] at z; cases z), fun _ => ?_⟩
  rw [hm]
  exact ⟨by rw [sq.len]; exact hn, bd, by rw [bare_expd hn sq]; exact q⟩
theorem dp_rowsAll {H : Hp} {R : Addr} {ps : List Addr} {M : Mat} (h : RowsAt H R ps M) : DpAll K H (ps.map V.ref) (M.map rowP) := by
  have z := dp_rows (K := K) h
  refine dpAll_mk (by rw [List.length_map, List.length_map, h.len]) fun i v d e1 e2 => ?_
  obtain ⟨p, hp, rfl⟩ := get_ref e1
  rw [List.getElem?_map] at e2
  cases e3 : M[i]? with
  | none => rw [e3] at e2; cases e2
  | some r =>
    rw [e3] at e2
    have : d = rowP r := (Option.some.inj e2).symm
    rw [this]
    exact .lst (SqL.of (h.cell i p r hp e3)) (dp_ints r)
theorem dpAll_drop {H : Hp} : ∀ {vs : List V} {ds : List PyData} (k : Nat), DpAll K H vs ds → DpAll K H (vs.drop k) (ds.drop k)
  | _, _, 0, h => h
  | _, _, _ + 1, .nil => .nil
  | _, _, k + 1, .cons _ t => dpAll_drop k t
theorem dpAll_take {H : Hp} : ∀ {vs : List V} {ds : List PyData} (k : Nat), DpAll K H vs ds → DpAll K H (vs.take k) (ds.take k)
  | _, _, 0, _ => .nil
  | _, _, _ + 1, .nil => .nil
  | _, _, k + 1, .cons h t => .cons h (dpAll_take k t)
def tMid (K : PySem.W.Frag) (C : Addr) : TS :=
  tIfS (tTest (tOp (rI0 fun i j => V.bl (decide (j < i))) (tCB (rLenSq K) (tCons (tVar 3) tNil)) (tC (V.int 1))))
    (tSeq (tAsg (tOp rCat (tLst (tCons (tOp (rIxL K) (tVar 3) (tC (V.int 1))) (tCons (tOp (rIxL K) (tVar 3) (tC (V.int 0))) tNil))) (tSl (rSlL K) (tVar 3) (tPart (tC (V.int 2))) tNoPart)) (gName 6))
    (tSeq (tAsg (tLc (iRng1 (tCons (tCB (rLenSq K) (tCons (tVar 3) tNil)) tNil)) (gName 11) tYes (tLc (iList K (tVar 3)) (gName 10) tYes (tOp (rIxL K) (tVar 10) (tVar 11)) (List.map (fun x => x.snd) [(Str.ofString "_law_row", 10)])) (List.map (fun x => x.snd) [(Str.ofString "_law_column", 11)])) (gName 7))
    (tIfS (tOr (tTest (tOp rNe (tCall (spDet K C) [] E0 (tCons (tVar 6) tNil)) (tOp (rI0 fun i j => V.int (i - j)) (tC (V.int 0)) (tVar 5)))) (tTest (tOp rNe (tCall (spDet K C) [] E0 (tCons (tVar 7) tNil)) (tVar 5)))) (tRet (tC (V.bl false))) tNext))) tNext
theorem mid_run {H : Hp} {a p R C : Addr} {ps : List Addr} {M : Mat} {n : Nat} {v1 v4 v6 v7 v8 v9 v10 v11 v12 v13 : Option V} {D : Ends} (hM : RowsAt H R ps M) (sq : Sq n M) (hn : n ≤ 4) (bd : Bd 42 M)
    (k : ∀ H' v6' v7' v10' v11', Same H H' → D.nx [some (.ref a), v1, some (.ref p), some (.ref R), v4, some (.int (expd n M)), v6', v7', v8, v9, v10', v11', v12, v13] H') :
    tMid K C D [some (.ref a), v1, some (.ref p), some (.ref R), v4, some (.int (expd n M)), v6, v7, v8, v9, v10, v11, v12, v13] H := by
  have hMl := sq.len
  have hpl := hM.len
  have bd6 : Bd 60 M := fun r hr x hx => Nat.lt_trans (bd r hr x hx) (by decide)
  refine ⟨_, rfl, R, _, rfl, .inl (SqL.of hM.top), _, _, rfl, rfl, _, rfl, ?_⟩
  refine iteB (fun hc => ?_) (fun hc => ?_)
  · have hc' : (1 : Int) < ((ps.map V.ref).length : Int) := of_decide_eq_true hc
    rw [List.length_map] at hc'
    obtain ⟨p1, a1, a2, a3⟩ := hM.get (i := 1) (by omega)
    obtain ⟨p0, b1, b2, b3⟩ := hM.get (i := 0) (by omega)
    refine ⟨_, rfl, R, _, _, _, rfl, rfl, SqL.of hM.top, a3, _, rfl, R, _, _, _, rfl, rfl, SqL.of hM.top, b3, (by show 2 ≤ sizeLine; decide), fun q1 hq1 => ?_⟩
    have s1 := same_new (o := .lst [.ref p1, .ref p0]) (Same.refl H) hq1
    refine ⟨_, rfl, _, rfl, R, _, rfl, SqL.of (s1 _ _ hM.top), fun q2 hq2 => ?_⟩
    have ec : cutV (ps.map V.ref) (some 2) none = (ps.map V.ref).drop 2 := cut_lo (xs := ps.map V.ref) (k := 2) (by rw [List.length_map]; omega)
    have s2 := same_new (o := .lst (cutV (ps.map V.ref) (some 2) none)) s1 hq2
    refine ⟨q1, q2, _, _, rfl, rfl, by rw [upd_ne (ne_of_none upd_same hq2), upd_same], upd_same, ?_, fun q3 hq3 => ?_⟩
    · rw [ec, List.length_drop, List.length_map]
      exact Nat.le_trans (show 2 + (ps.length - 2) ≤ 100 by omega) (by decide)
    have s3 := same_new (o := .lst ([.ref p1, .ref p0] ++ cutV (ps.map V.ref) (some 2) none)) s2 hq3
    have hq3' : upd (upd (upd H q1 (.lst [.ref p1, .ref p0])) q2 (.lst (cutV (ps.map V.ref) (some 2) none))) q3 (.lst ([.ref p1, .ref p0] ++ cutV (ps.map V.ref) (some 2) none)) q3 = some (.lst ([.ref p1, .ref p0] ++ (ps.map V.ref).drop 2)) := by rw [upd_same, ec]
    generalize upd (upd (upd H q1 (.lst [.ref p1, .ref p0])) q2 (.lst (cutV (ps.map V.ref) (some 2) none))) q3 (.lst ([.ref p1, .ref p0] ++ cutV (ps.map V.ref) (some 2) none)) = H3 at s3 hq3'
    have hM3 := hM.same s3
    -- the swapped table
    have eM : M = row M 0 :: row M 1 :: M.drop 2 := by
      match M, hMl, hpl with
      | [], h1, h2 => simp at h1; omega
      | [x], h1, h2 => simp at h1; omega
      | x :: y :: S, _, _ => rfl
    have dSw : Dp K H3 (.ref q3) (matP (row M 1 :: row M 0 :: M.drop 2)) := by
      refine .lst (SqL.of hq3') ?_
      show DpAll K H3 (.ref p1 :: .ref p0 :: (ps.map V.ref).drop 2) (rowP (row M 1) :: rowP (row M 0) :: (M.drop 2).map rowP)
      refine .cons (.lst (SqL.of (s3 _ _ a2)) (dp_ints _)) (.cons (.lst (SqL.of (s3 _ _ b2)) (dp_ints _)) ?_)
      rw [List.map_drop]
      exact dpAll_drop 2 (dp_rowsAll hM3)
    have sqs : Sq n (row M 0 :: row M 1 :: M.drop 2) := by rw [← eM]; exact sq
    have sqS : Sq n (row M 1 :: row M 0 :: M.drop 2) := ⟨by have := sqs.len; simpa using this, fun r hr => sqs.row r (by
      simp only [List.mem_cons] at hr ⊢
      rcases hr with h | h | h
      · exact .inr (.inl h)
      · exact .inl h
      · exact .inr (.inr h))⟩
    have bdS : Bd 60 (row M 1 :: row M 0 :: M.drop 2) := fun r hr => bd6 r (by
      rw [eM]
      simp only [List.mem_cons] at hr ⊢
      rcases hr with h | h | h
      · exact .inr (.inl h)
      · exact .inl h
      · exact .inr (.inr h))
    have eS : expd n (row M 1 :: row M 0 :: M.drop 2) = 0 - expd n M := by
      have z := expd_swap hn sqs
      rw [z, ← eM]
    -- the upright one
    refine ⟨_, rfl, R, _, rfl, .inl (SqL.of hM3.top), _, rfl, by rw [List.length_map]; omega, by rw [List.length_map]; omega, fun L hL => ?_⟩
    have hNN : (((ps.map V.ref).length : Int)).toNat = n := by rw [List.length_map]; omega
    rw [hNN]
    refine lc_same (walk_range (lo := 0) (n := n)) hL (by omega) (fun _ _ => trivial) (fun j y Hw => ∃ c, y = V.ref c ∧ Hw c = some (.lst ((M.map fun r => r.getD j 0).map V.int))) (fun i y Ha Hb sab ⟨c, e1, e2⟩ => ⟨c, e1, sab _ _ e2⟩) ?_ ?_
    · rintro j x H4 H4' k4 hj s4 ⟨acc, hacc⟩ ⟨rfl, rfl⟩ hk4
      rw [show (fun i : Nat => V.int ((0 : Int) + (i : Int))) j = V.int (j : Int) by simp]
      have hM4 := hM3.same s4
      refine ⟨rfl, _, rfl, R, rfl, ⟨_, SqL.of hM4.top⟩, fun L2 hL2 => ?_⟩
      have wk := (walk_list (K := K) (a := R) (xs := ps.map V.ref)).mono (G' := fun H' => Same H4' H') (fun H' s' => s'.seq (SqL.of hM4.top)) fun _ _ _ _ _ _ y => y
      refine lc_same wk hL2 (by rw [List.length_map]; omega) (fun _ z => z) (fun i y Hw => ∃ r, M[i]? = some r ∧ y = V.int (r.getD j 0)) (fun _ _ _ _ _ z => z) ?_ ?_
      · rintro i y H5 H5' k5 hi s5 _ ⟨rfl, hx⟩ hk5
        obtain ⟨c, hc1, rfl⟩ := get_ref hx
        have hiM : i < M.length := by have := (List.getElem?_eq_some_iff.mp hc1).1; omega
        have hcell := s5 _ _ (hM4.cell i c _ hc1 (List.getElem?_eq_getElem hiM))
        have hrl := sq.row _ (List.getElem_mem hiM)
        exact ⟨rfl, _, rfl, _, rfl, c, _, _, _, rfl, rfl, SqL.of hcell, at_int (by omega), hk5 _ _ (Same.refl _) ⟨_, List.getElem?_eq_getElem hiM, rfl⟩⟩
      · intro zs H5 hzl hzr s5 hz
        have ez : zs = (M.map fun r => r.getD j 0).map V.int := by
          apply List.ext_getElem?
          intro i
          by_cases hi : i < zs.length
          · obtain ⟨u, h1, h2⟩ := hzr i _ (List.getElem?_eq_getElem hi)
            rw [List.getElem?_eq_getElem hi, List.getElem?_map, List.getElem?_map, h1, h2]
            rfl
          · rw [List.getElem?_eq_none (by omega), List.getElem?_eq_none (by rw [List.length_map, List.length_map]; rw [List.length_map] at hzl; omega)]
        refine hk4 _ _ s5 ⟨L2, rfl, ?_⟩
        have nLL : L2 ≠ L := (ne_of_none hacc hL2).symm
        rw [wo_ne nLL, hz, ez]
    · intro ys H4 hyl hyr s4 hy
      obtain ⟨qs, rfl, hqs⟩ := refs_of hyr
      rw [List.length_map] at hyl
      have rowsU : RowsAt H4 L qs (upr n M) := by
        refine ⟨hy, by unfold upr; rw [List.length_map, List.length_range, hyl], fun j c r e1 e2 => ?_⟩
        unfold upr at e2
        rw [List.getElem?_map] at e2
        have hj : j < n := by have := (List.getElem?_eq_some_iff.mp e1).1; omega
        rw [List.getElem?_range hj] at e2
        have : r = M.map fun r => r.getD j 0 := (Option.some.inj e2).symm
        rw [this]
        exact wo_same _ _ (hqs j c e1)
      have sqU : Sq n (upr n M) := ⟨by unfold upr; rw [List.length_map, List.length_range], fun r hr => by
        unfold upr at hr
        obtain ⟨j, _, rfl⟩ := List.mem_map.mp hr
        rw [List.length_map, hMl]⟩
      have bdU : Bd 60 (upr n M) := fun r hr x hx => by
        unfold upr at hr
        obtain ⟨j, _, rfl⟩ := List.mem_map.mp hr
        obtain ⟨r0, hr0, rfl⟩ := List.mem_map.mp hx
        exact getD_bd (bd6 r0 hr0) j
      refine ⟨_, rfl, _, matP _, rfl, dp_same s4 dSw, matP_few sqS hn, (fun z => by rw [matP_sqr sqS] at z; cases z), fun _ => ⟨by rw [matP_mat, (sqS).len]; exact hn, by rw [matP_mat]; exact bdS, fun H5 s5 => ?_⟩⟩
      rw [matP_mat, bare_expd hn sqS]
      refine ⟨_, rfl, _, _, rfl, rfl, rfl, _, rfl, ?_⟩
      refine iteNS (congrArg V.int eS) ?_
      refine ⟨_, rfl, _, matP _, rfl, dp_same s5 (dp_rows rowsU), matP_few sqU hn, (fun z => by rw [matP_sqr sqU] at z; cases z), fun _ => ⟨by rw [matP_mat, (sqU).len]; exact hn, by rw [matP_mat]; exact bdU, fun H6 s6 => ?_⟩⟩
      rw [matP_mat, bare_expd hn sqU]
      refine ⟨_, rfl, rfl, _, rfl, ?_⟩
      refine iteNS (congrArg V.int (expd_upr hn sq)) ?_
      exact k _ _ _ _ _ (((s3.trans s4).trans s5).trans s6)
  · exact k _ _ _ _ _ (Same.refl _)
/-- what determinant must refuse -/
def Bad (d : PyData) : Prop := sqr d = false ∧ SeqAt.shaped d = true ∧ Few d
theorem bad_list {ds : List PyData} (h1 : ds.length ≤ 100) (h2 : ∀ r ∈ ds, Shp 3 r ∧ ∀ zs, r = .list zs ∨ r = .tuple zs → zs.length ≤ 100) (h3 : ∃ r ∈ ds, rowOk ds.length r = false) : Bad (.list ds) := by
  refine ⟨?_, (shp_list fun r hr => (h2 r hr).1).shaped (by decide), few_list h1 fun r hr => (h2 r hr).2⟩
  obtain ⟨r, hr, e⟩ := h3
  show ds.all (rowOk ds.length) = false
  rw [List.all_eq_false]
  exact ⟨r, hr, by rw [e]; exact Bool.false_ne_true⟩
theorem rowP_ne {n : Nat} {r : List Int} (h : r.length ≠ n) : rowOk n (rowP r) = false := by
  show (((r.map PyData.int).length == n) && _) = false
  rw [List.length_map, beq_eq_false_iff_ne.mpr h]
  rfl
theorem rowP_fine {r : List Int} (h : r.length ≤ 100) : Shp 3 (rowP r) ∧ ∀ zs, rowP r = .list zs ∨ rowP r = .tuple zs → zs.length ≤ 100 := ⟨shp_ints.mono (by decide), few_rowP h⟩
theorem cut_back {xs : List V} (h : 0 < xs.length) : cutV xs none (some (-1)) = xs.dropLast := by
  unfold cutV
  have e : HT.sIx xs.length xs.length (some (-1)) = xs.length - 1 := by
    show (if (-1 : Int) < 0 then ((-1 : Int) + (xs.length : Int)).toNat else min (-1 : Int).toNat xs.length) = xs.length - 1
    rw [if_pos (by decide)]
    omega
  rw [e]
  show (xs.drop 0).take (xs.length - 1 - 0) = _
  rw [List.drop_zero, Nat.sub_zero, List.dropLast_eq_take]
theorem at_back {xs : List V} {v : V} (h : xs[xs.length - 1]? = some v) : atI xs (-1) = some v := by
  have hl := (List.getElem?_eq_some_iff.mp h).1
  unfold atI ixN
  rw [if_neg (by decide), if_pos (by omega)]
  show xs[((-1 : Int) + (xs.length : Int)).toNat]? = some v
  rw [show ((-1 : Int) + (xs.length : Int)).toNat = xs.length - 1 by omega]
  exact h
def tOdd (K : PySem.W.Frag) (C : Addr) : TS :=
  tIfS (tTest (tOp (rNeD K) (tVar 3) (tLst tNil)))
   (tSeq (tAsg (tOp (rI0 fun i j => V.int (i - j)) (tCall spDraw [] E0 (tCons (tVar 2) (tCons (tC (V.int 2001)) tNil))) (tC (V.int 1000))) (gName 8))
   (tSeq (tIfS (tTest (tOp rNe (tCall (spDet K C) [] E0 (tCons (tOp rCat (tLst (tCons (tLc (iList K (tOp (rIxL K) (tVar 3) (tC (V.int 0)))) (gName 13) tYes (tOp (rI CMul fun i j => V.int (i * j)) (tVar 8) (tVar 13)) (List.map (fun x => x.snd) [(Str.ofString "_law_one", 13)])) tNil)) (tSl (rSlL K) (tVar 3) (tPart (tC (V.int 1))) tNoPart)) tNil)) (tOp (rI CMul fun i j => V.int (i * j)) (tVar 8) (tVar 5)))) (tRet (tC (V.bl false))) tNext)
   (tSeq (tAsg (tLst (tCons (tOp rCat (tVar 3) (tLst (tCons (tOp (rIxL K) (tVar 3) (tC (V.int 0))) tNil))) (tCons (tLc (iList K (tVar 3)) (gName 10) tYes (tOp rCat (tVar 10) (tLst (tCons (tC (V.int 1)) tNil))) (List.map (fun x => x.snd) [(Str.ofString "_law_row", 10)]))
     (tCons (tOp rCat (tSl (rSlL K) (tVar 3) tNoPart (tPart (tUn (rU fun i => V.int (-i)) (tC (V.int 1))))) (tLst (tCons (tSl (rSlL K) (tOp (rIxL K) (tVar 3) (tUn (rU fun i => V.int (-i)) (tC (V.int 1)))) (tPart (tC (V.int 1))) tNoPart) tNil))) tNil)))) (gName 9))
   (tSeq (tAsg (tOp rCat (tVar 9) (tLc (iList K (tLst (tCons (tC (V.bl true)) (tCons (tC V.non) (tCons (tC (V.str (Str.ofString "1"))) (tCons (tLst (tCons (tC (V.int 1)) tNil)) tNil)))))) (gName 12) tYes
      (tOp rCat (tSl (rSlL K) (tVar 3) tNoPart (tPart (tUn (rU fun i => V.int (-i)) (tC (V.int 1))))) (tLst (tCons (tOp rCat (tSl (rSlL K) (tOp (rIxL K) (tVar 3) (tUn (rU fun i => V.int (-i)) (tC (V.int 1)))) tNoPart (tPart (tUn (rU fun i => V.int (-i)) (tC (V.int 1))))) (tLst (tCons (tVar 12) tNil))) tNil))) (List.map (fun x => x.snd) [(Str.ofString "_law_odd", 12)]))) (gName 9))
   (tIfS (tNot (tB (tCB (rAll K) (tCons (tLc (iList K (tOp rCat (tVar 9) (tLst (tCons (tC V.non) (tCons (tC (V.int 3)) (tCons (tOp rCat (tSl (rSlL K) (tVar 3) tNoPart (tPart (tUn (rU fun i => V.int (-i)) (tC (V.int 1))))) (tLst (tCons (tC (V.int 5)) tNil))) tNil)))))) (gName 13) tYes (tCall (spRefused K) [] E0 (tCons (tVar 13) tNil)) (List.map (fun x => x.snd) [(Str.ofString "_law_one", 13)])) tNil)))) (tRet (tC (V.bl false))) tNext))))) tNext
/-- the end of a table: all rows but the last, and one more -/
structure Tail (M : Mat) (n : Nat) (S : Mat) (r : List Int) : Prop where
  eq : M = S ++ [r]
  len : S.length + 1 = n
  row : r.length = n
theorem tail_of {M : Mat} {n : Nat} (sq : Sq n M) (h : 0 < n) : Tail M n M.dropLast (row M (n - 1)) := by
  have hne : M ≠ [] := fun e => by have := sq.len; rw [e] at this; simp at this; omega
  have e : row M (n - 1) = M.getLast hne := by
    unfold row
    rw [List.getD_eq_getElem?_getD, List.getElem?_eq_getElem (by rw [sq.len]; omega), List.getLast_eq_getElem]
    simp only [sq.len]
    rfl
  rw [e]
  refine ⟨(List.dropLast_concat_getLast hne).symm, ?_, sq.row _ (List.getLast_mem hne)⟩
  rw [List.length_dropLast, sq.len]
  omega
theorem odd_bad {M : Mat} {n : Nat} {S : Mat} {r : List Int} {x : PyData} (sq : Sq n M) (hn : n ≤ 4) (t : Tail M n S r) (hx : Shp 3 x ∧ ∀ zs, x = .list zs ∨ x = .tuple zs → zs.length ≤ 100) (hb : rowOk n x = false) : Bad (.list (S.map rowP ++ [x])) := by
  have hl : (S.map rowP ++ [x]).length = n := by rw [List.length_append, List.length_map]; exact t.len
  refine bad_list (by omega) (fun d hd => ?_) ⟨x, by simp, by rw [hl]; exact hb⟩
  rcases List.mem_append.mp hd with h | h
  · obtain ⟨q, hq, rfl⟩ := List.mem_map.mp h
    exact rowP_fine (by rw [sq.row q (by rw [t.eq]; exact List.mem_append_left _ hq)]; omega)
  · rw [List.mem_singleton.mp h]
    exact hx
theorem fresh_back {H H' : Hp} {q : Addr} (s : Same H H') (h : H' q = none) : H q = none := by
  cases e : H q with
  | none => rfl
  | some o => rw [s _ _ e] at h; cases h
theorem cat1 {ta te : TE} {σ : L2.St} {H : Hp} {Q : VK} {xs : List V} {Y : V → Hp → Prop} (hx : xs.length ≤ 100) (hY : ∀ y H H', Same H H' → Y y H → Y y H')
    (ha : ∀ Q1 : VK, (∀ l H1, Same H H1 → H1 l = some (.lst xs) → Q1 (.ref l) H1) → ta σ H Q1)
    (he : ∀ H1 (Q1 : VK), Same H H1 → (∀ y H2, Same H1 H2 → Y y H2 → Q1 y H2) → te σ H1 Q1)
    (q : ∀ l y H', Same H H' → H l = none → H' l = some (.lst (xs ++ [y])) → Y y H' → Q (.ref l) H') : tOp rCat ta (tLst (tCons te tNil)) σ H Q := by
  refine ha _ fun l H1 s1 hl => ?_
  refine he H1 _ s1 fun y H2 s2 hy => ?_
  refine ⟨(by show 1 ≤ sizeLine; decide), fun p hp => ?_⟩
  have s3 := same_new (o := .lst [y]) (Same.refl H2) hp
  refine ⟨l, p, xs, [y], rfl, rfl, s3 _ _ (s2 _ _ hl), upd_same, Nat.le_trans (show xs.length + 1 ≤ 101 by omega) (by decide), fun p2 hp2 => ?_⟩
  have s4 := same_new (o := .lst (xs ++ [y])) s3 hp2
  exact q _ y _ ((s1.trans s2).trans s4) (fresh_back ((s1.trans s2).trans s3) hp2) upd_same (hY _ _ _ s4 hy)
/-- the same, told in data -/
theorem cat1D {ta te : TE} {σ : L2.St} {H : Hp} {Q : VK} {xs : List V} {ds : List PyData} {d : PyData} (hx : xs.length ≤ 100) (hds : DpAll K H xs ds)
    (ha : ∀ Q1 : VK, (∀ l H1, Same H H1 → H1 l = some (.lst xs) → Q1 (.ref l) H1) → ta σ H Q1)
    (he : ∀ H1 (Q1 : VK), Same H H1 → (∀ y H2, Same H1 H2 → Dp K H2 y d → Q1 y H2) → te σ H1 Q1)
    (q : ∀ l H', Same H H' → Dp K H' (.ref l) (.list (ds ++ [d])) → Q (.ref l) H') : tOp rCat ta (tLst (tCons te tNil)) σ H Q :=
  cat1 (Y := fun y H' => Dp K H' y d) hx (fun _ _ _ s z => dp_same s z) ha he fun l y H' s _ hl hy => q l H' s (.lst (SqL.of hl) (dpAll_append (dpAll_same s hds) (.cons hy .nil)))
/-- the same beside a list that is being made at L -/
theorem cat1W {ta te : TE} {σ : L2.St} {H : Hp} {Q : VK} {xs : List V} {ds : List PyData} {d : PyData} {L : Addr} {acc : List V} (hL : H L = some (.lst acc)) (hx : xs.length ≤ 100) (hds : DpAll K (wo H L) xs ds)
    (ha : ∀ Q1 : VK, (∀ l H1, Same H H1 → H1 l = some (.lst xs) → Q1 (.ref l) H1) → ta σ H Q1)
    (he : ∀ H1 (Q1 : VK), Same H H1 → (∀ y H2, Same H1 H2 → Dp K (wo H2 L) y d → Q1 y H2) → te σ H1 Q1)
    (q : ∀ l H', Same H H' → Dp K (wo H' L) (.ref l) (.list (ds ++ [d])) → Q (.ref l) H') : tOp rCat ta (tLst (tCons te tNil)) σ H Q :=
  cat1 (Y := fun y H' => Dp K (wo H' L) y d) hx (fun _ _ _ s z => dp_same (wo_mono s) z) ha he fun l y H' s hl0 hl hy => q l H' s (.lst (SqL.of (by rw [wo_ne (ne_of_none hL hl0).symm]; exact hl)) (dpAll_append (dpAll_same (wo_mono s) hds) (.cons hy .nil)))
theorem cut1 {tb : TE} {σ : L2.St} {H : Hp} {xs : List V} {R : Addr} (hR : SqL K H R xs) (h0 : 0 < xs.length) (hb : ∀ Q1 : VK, Q1 (.ref R) H → tb σ H Q1) :
    ∀ Q1 : VK, (∀ l H1, Same H H1 → H1 l = some (.lst xs.dropLast) → Q1 (.ref l) H1) → tSl (rSlL K) tb tNoPart (tPart (tUn (rU fun i => V.int (-i)) (tC (V.int 1)))) σ H Q1 := fun Q1 k =>
  hb _ ⟨_, rfl, _, rfl, R, xs, rfl, hR, fun p hp => k p _ (same_new (Same.refl _) hp) (by rw [upd_same, ← cut_back h0])⟩
theorem dpAll_last {H : Hp} {vs : List V} {ds : List PyData} (h : DpAll K H vs ds) : DpAll K H vs.dropLast ds.dropLast := by
  rw [List.dropLast_eq_take, List.dropLast_eq_take, dpAll_len h]
  exact dpAll_take _ h
def oddDs : List PyData := [.bool true, .none, .str (Str.ofString "1"), .list [.int 1]]
def dOdd (M : Mat) (n : Nat) (x : PyData) : PyData := .list ((M.map rowP).dropLast ++ [.list (((row M (n - 1)).map PyData.int).dropLast ++ [x])])
theorem all_bad {M : Mat} {n : Nat} (sq : Sq n M) (hn : n ≤ 4) (hpos : 0 < n) : ∀ e ∈ ([.list (M.map rowP ++ [rowP (row M 0)]), .list (M.map fun r => rowP (r ++ [1])), .list ((M.map rowP).dropLast ++ [rowP ((row M (n - 1)).drop 1)])] ++ oddDs.map (dOdd M n)) ++ [.none, .int 3, .list ((M.map rowP).dropLast ++ [.int 5])], Bad e := by
  have hMl := sq.len
  have tl := tail_of sq hpos
  have hrl : (row M (n - 1)).length = n := tl.row
  have h0 : row M 0 ∈ M := row_mem (by omega)
  have eD : (M.map rowP).dropLast = M.dropLast.map rowP := by rw [List.map_dropLast]
  have fine : ∀ d ∈ M.map rowP, Shp 3 d ∧ ∀ zs, d = .list zs ∨ d = .tuple zs → zs.length ≤ 100 := fun d hd => by
    obtain ⟨r, hr, rfl⟩ := List.mem_map.mp hd
    exact rowP_fine (by rw [sq.row r hr]; omega)
  have odd : ∀ x, Shp 2 x → isI x = false → Bad (dOdd M n x) := fun x h1 h2 => by
    unfold dOdd
    rw [eD]
    refine odd_bad sq hn tl ⟨shp_list fun d hd => ?_, fun zs e => ?_⟩ ?_
    · rcases List.mem_append.mp hd with h | h
      · obtain ⟨i, _, rfl⟩ := List.mem_map.mp (List.dropLast_subset _ h)
        exact shp_int.mono (by decide)
      · rw [List.mem_singleton.mp h]
        exact h1
    · rcases e with e | e
      · cases e
        rw [List.length_append, List.length_dropLast, List.length_map, hrl]
        simp
        omega
      · cases e
    · show (_ && List.all _ isI) = false
      rw [List.all_append]
      show (_ && (_ && (isI x && true))) = false
      rw [h2]
      simp
  intro e he
  rcases List.mem_append.mp he with h | h
  · rcases List.mem_append.mp h with h | h
    · simp only [List.mem_cons, List.not_mem_nil, or_false] at h
      rcases h with rfl | rfl | rfl
      · refine bad_list (by rw [List.length_append, List.length_map]; simp; omega) (fun r hr => ?_) ⟨rowP (row M 0), by simp, rowP_ne ?_⟩
        · rcases List.mem_append.mp hr with h | h
          · exact fine r h
          · rw [List.mem_singleton.mp h]
            exact rowP_fine (by rw [sq.row _ h0]; omega)
        · rw [List.length_append, List.length_map, sq.row _ h0]
          simp
          omega
      · refine bad_list (by rw [List.length_map]; omega) (fun r hr => ?_) ⟨rowP (row M 0 ++ [1]), List.mem_map.mpr ⟨_, h0, rfl⟩, rowP_ne ?_⟩
        · obtain ⟨q, hq, rfl⟩ := List.mem_map.mp hr
          exact rowP_fine (by rw [List.length_append, sq.row q hq]; simp; omega)
        · rw [List.length_append, sq.row _ h0, List.length_map, hMl]
          simp
      · rw [eD]
        refine odd_bad sq hn tl (rowP_fine ?_) (rowP_ne ?_)
        · rw [List.length_drop, hrl]; omega
        · rw [List.length_drop, hrl]; omega
    · obtain ⟨x, hx, rfl⟩ := List.mem_map.mp h
      unfold oddDs at hx
      simp only [List.mem_cons, List.not_mem_nil, or_false] at hx
      rcases hx with rfl | rfl | rfl | rfl
      · exact odd _ (shp_bool.mono (by decide)) rfl
      · exact odd _ (shp_none.mono (by decide)) rfl
      · exact odd _ ⟨by decide +kernel, by decide +kernel⟩ rfl
      · exact odd _ (shp_list fun d hd => by rw [List.mem_singleton.mp hd]; exact shp_int) rfl
  · simp only [List.mem_cons, List.not_mem_nil, or_false] at h
    rcases h with rfl | rfl | rfl
    · exact ⟨rfl, by decide, fun xs e => by rcases e with e | e <;> cases e⟩
    · exact ⟨rfl, by decide, fun xs e => by rcases e with e | e <;> cases e⟩
    · rw [eD]
      exact odd_bad sq hn tl ⟨shp_int.mono (by decide), fun zs e => by rcases e with e | e <;> cases e⟩ rfl
theorem odd_run {H : Hp} {a p R C : Addr} {ps : List Addr} {M : Mat} {n : Nat} {v1 v4 v6 v7 v8 v9 v10 v11 v12 v13 : Option V} {D : Ends} (hM : RowsAt H R ps M) (sq : Sq n M) (hn : n ≤ 4) (bd : Bd 42 M) (hp : Pool H p) (fR : R ≠ p) (fr : ∀ q ∈ ps, q ≠ p)
    (k : ∀ H' v8' v9' v10' v12' v13', Dr p H H' → D.nx [some (.ref a), v1, some (.ref p), some (.ref R), v4, some (.int (expd n M)), v6, v7, v8', v9', v10', v11, v12', v13'] H') :
    tOdd K C D [some (.ref a), v1, some (.ref p), some (.ref R), v4, some (.int (expd n M)), v6, v7, v8, v9, v10, v11, v12, v13] H := by
  have hMl := sq.len
  have hpl := hM.len
  have bd6 : Bd 60 M := fun r hr x hx => Nat.lt_trans (bd r hr x hx) (by decide)
  refine ⟨_, rfl, Nat.zero_le _, fun q0 hq0 => ?_⟩
  have s0 := same_new (o := .lst []) (Same.refl H) hq0
  have D0 : Dr p H (upd H q0 (.lst [])) := (Dr.refl hp).new hq0
  have hM0 := hM.same s0
  refine ⟨matP M, .list [], dp_rows hM0, .lst (SqL.of upd_same) .nil, (matP_shp M).shaped (by decide), by decide, _, rfl, ?_⟩
  generalize upd H q0 (.lst []) = H0 at s0 D0 hM0
  refine iteB (fun hc => ?_) (fun _ => k _ _ _ _ _ _ D0)
  have hpos : 0 < n := by
    rcases Nat.eq_zero_or_pos n with z | z
    · have : M = [] := List.eq_nil_of_length_eq_zero (by omega)
      rw [this] at hc
      exact absurd hc (by decide)
    · exact z
  refine ⟨_, rfl, p, _, rfl, D0.2, by decide, by decide, fun d H1 d0 d1 D1 => ⟨_, _, rfl, rfl, ?_⟩⟩
  have hM1 : RowsAt H1 R ps M := ⟨D1.1 _ _ fR hM0.top, hM.len, fun i c r e1 e2 => D1.1 _ _ (fr c (List.mem_of_getElem? e1)) (hM0.cell i c r e1 e2)⟩
  have D01 := D0.trans D1
  clear hM0 D0 s0 hM hp hc
  generalize ht : d - 1000 = t
  have t0 : -1000 ≤ t := by omega
  have t1 : t ≤ 1000 := by omega
  -- the scaled one
  obtain ⟨c0, hc1, hc2, hc3⟩ := hM1.get (i := 0) (by omega)
  refine ⟨_, rfl, R, _, _, _, rfl, rfl, SqL.of hM1.top, hc3, c0, rfl, ⟨_, SqL.of hc2⟩, fun L hL => ?_⟩
  have hr0 : (row M 0).length = n := sq.row _ (row_mem (by omega))
  have wk := (walk_list (K := K) (a := c0) (xs := (row M 0).map V.int)).mono (G' := fun H' => Same H1 H') (fun H' s' => s'.seq (SqL.of hc2)) fun _ _ _ _ _ _ y => y
  refine lc_same wk hL (by rw [List.length_map]; omega) (fun _ z => z) (fun i y Hw => ∃ u, (row M 0)[i]? = some u ∧ y = V.int (t * u)) (fun _ _ _ _ _ z => z) ?_ ?_
  · rintro i x H5 H5' k5 hi s5 _ ⟨rfl, hx⟩ hk
    obtain ⟨u, hu, rfl⟩ := get_int hx
    exact ⟨rfl, _, rfl, _, rfl, _, _, rfl, rfl, .inl ⟨by omega, by omega⟩, hk _ _ (Same.refl _) ⟨u, hu, by rw [← ht]⟩⟩
  intro zs H2 hzl hzr s2 hz
  have ez : zs = ((row M 0).map (t * ·)).map V.int := by
    apply List.ext_getElem?
    intro i
    by_cases hi : i < zs.length
    · obtain ⟨u, h1, h2⟩ := hzr i _ (List.getElem?_eq_getElem hi)
      rw [List.getElem?_eq_getElem hi, List.getElem?_map, List.getElem?_map, h1, h2]
      rfl
    · rw [List.getElem?_eq_none (by omega), List.getElem?_eq_none (by rw [List.length_map, List.length_map]; rw [List.length_map] at hzl; omega)]
  subst ez
  have D02 := D01.same s2
  have hM2 := hM1.same s2
  clear hM1 D01 hzr hzl hL wk s2 hc1 hc2 hc3 D1 d0 d1
  refine ⟨(by show 1 ≤ sizeLine; decide), fun q1 hq1 => ?_⟩
  have s3 := same_new (o := .lst [.ref L]) (Same.refl H2) hq1
  refine ⟨_, rfl, _, rfl, R, _, rfl, SqL.of (s3 _ _ hM2.top), fun q2 hq2 => ?_⟩
  have ec : cutV (ps.map V.ref) (some 1) none = (ps.map V.ref).drop 1 := cut_lo (xs := ps.map V.ref) (k := 1) (by rw [List.length_map]; omega)
  rw [ec] at *
  have s4 := same_new (o := .lst ((ps.map V.ref).drop 1)) s3 hq2
  refine ⟨q1, q2, _, _, rfl, rfl, by rw [upd_ne (ne_of_none upd_same hq2), upd_same], upd_same, ?_, fun q3 hq3 => ?_⟩
  · rw [List.length_drop, List.length_map]
    exact Nat.le_trans (show 1 + (ps.length - 1) ≤ 100 by omega) (by decide)
  have s5 := same_new (o := .lst ([.ref L] ++ (ps.map V.ref).drop 1)) s4 hq3
  have hq3' : upd (upd (upd H2 q1 (.lst [.ref L])) q2 (.lst ((ps.map V.ref).drop 1))) q3 (.lst ([.ref L] ++ (ps.map V.ref).drop 1)) q3 = some (.lst ([.ref L] ++ (ps.map V.ref).drop 1)) := upd_same
  generalize upd (upd (upd H2 q1 (.lst [.ref L])) q2 (.lst ((ps.map V.ref).drop 1))) q3 (.lst ([.ref L] ++ (ps.map V.ref).drop 1)) = H3 at s5 hq3'
  have hM3 := hM2.same s5
  have eM : M = row M 0 :: M.drop 1 := by
    match M, hMl, hpl with
    | [], h1, h2 => simp at h1; omega
    | x :: S, _, _ => rfl
  have dSc : Dp K H3 (.ref q3) (matP ((row M 0).map (t * ·) :: M.drop 1)) := by
    refine .lst (SqL.of hq3') ?_
    show DpAll K H3 (.ref L :: (ps.map V.ref).drop 1) (rowP ((row M 0).map (t * ·)) :: (M.drop 1).map rowP)
    refine .cons (.lst (SqL.of (s5 _ _ hz)) (dp_ints _)) ?_
    rw [List.map_drop]
    exact dpAll_drop 1 (dp_rowsAll hM3)
  have sqs : Sq n (row M 0 :: M.drop 1) := by rw [← eM]; exact sq
  have sqS : Sq n ((row M 0).map (t * ·) :: M.drop 1) := ⟨by have := sqs.len; simpa using this, fun r hr => by
    rcases List.mem_cons.mp hr with h | h
    · rw [h, List.length_map]; exact hr0
    · exact sqs.row r (List.mem_cons_of_mem _ h)⟩
  have bdS : Bd 60 ((row M 0).map (t * ·) :: M.drop 1) := fun r hr x hx => by
    rcases List.mem_cons.mp hr with h | h
    · rw [h] at hx
      obtain ⟨u, hu, rfl⟩ := List.mem_map.mp hx
      have hub := bd _ (row_mem (M := M) (i := 0) (by omega)) u hu
      show (t * u).natAbs < 2 ^ 60
      rw [Int.natAbs_mul]
      have e2 : t.natAbs ≤ 1000 := by omega
      have e4 := Nat.mul_le_mul_right u.natAbs e2
      have e5 : (2 : Nat) ^ 42 = 4398046511104 := by decide
      have e6 : (2 : Nat) ^ 60 = 1152921504606846976 := by decide
      omega
    · exact bd6 r (List.mem_of_mem_drop h) x hx
  have eS : expd n ((row M 0).map (t * ·) :: M.drop 1) = t * expd n M := by
    have z := expd_scale hn sqs t
    rw [z, ← eM]
  refine ⟨_, matP _, rfl, dSc, matP_few sqS hn, (fun z => by rw [matP_sqr sqS] at z; cases z), fun _ => ⟨by rw [matP_mat, (sqS).len]; exact hn, by rw [matP_mat]; exact bdS, fun H4 s4 => ?_⟩⟩
  rw [matP_mat, bare_expd hn sqS]
  refine ⟨_, rfl, _, rfl, _, _, rfl, rfl, .inl ⟨by omega, by omega⟩, rfl, _, rfl, ?_⟩
  refine iteNS (congrArg V.int (by rw [ht]; exact eS)) ?_
  have D04 := (D02.same s5).same s4
  have hM4 := hM3.same s4
  clear eS bdS sqS dSc hM3 hM2 D02 s5 hq3' hz s3 hq1 hq2 hq3 s4
  have tl := tail_of sq hpos
  have hrl : (row M (n - 1)).length = n := tl.row
  have lastOf : ∀ {H' : Hp}, RowsAt H' R ps M → ∃ c, H' c = some (.lst ((row M (n - 1)).map V.int)) ∧ atI (ps.map V.ref) (-1) = some (.ref c) := fun {H'} h => by
    obtain ⟨c, h1, h2, _⟩ := h.get (i := n - 1) (by omega)
    refine ⟨c, h2, at_back ?_⟩
    rw [List.length_map, List.getElem?_map, show ps.length - 1 = n - 1 by omega, h1]
    rfl
  -- a row too many
  refine cat1D (K := K) (H := H4) (ta := tVar 3) (te := tOp (rIxL K) (tVar 3) (tC (V.int 0))) (xs := ps.map V.ref) (ds := M.map rowP) (d := rowP (row M 0)) (by rw [List.length_map]; omega) (dp_rowsAll hM4) (fun Q1 kk => ⟨_, rfl, kk R H4 (Same.refl _) hM4.top⟩) (fun H5 Q1 s5 kk => ?_) (fun l1 H5 s5 hA => ?_)
  · obtain ⟨c0, hc1, hc2, hc3⟩ := (hM4.same s5).get (i := 0) (by omega)
    exact ⟨_, rfl, R, _, _, _, rfl, rfl, SqL.of (hM4.same s5).top, hc3, kk _ _ (Same.refl _) (.lst (SqL.of hc2) (dp_ints _))⟩
  have hM5 := hM4.same s5
  have D05 := D04.same s5
  clear hM4 D04 s5
  -- rows too long
  refine ⟨_, rfl, R, rfl, ⟨_, SqL.of hM5.top⟩, fun L2 hL2 => ?_⟩
  have wk := (walk_list (K := K) (a := R) (xs := ps.map V.ref)).mono (G' := fun H' => Same H5 H') (fun H' s' => s'.seq (SqL.of hM5.top)) fun _ _ _ _ _ _ y => y
  refine lc_same wk hL2 (by rw [List.length_map]; omega) (fun _ z => z) (fun i y Hw => ∃ r, M[i]? = some r ∧ Dp K Hw y (rowP (r ++ [1]))) (fun i y Ha Hb s ⟨r, h1, h2⟩ => ⟨r, h1, dp_same s h2⟩) ?_ ?_
  · rintro i x H6 H6' k6 hi s6 ⟨acc, hacc⟩ ⟨rfl, hx⟩ hk
    obtain ⟨c, hc, rfl⟩ := get_ref hx
    have hiM : i < M.length := by have := (List.getElem?_eq_some_iff.mp hc).1; omega
    have hcell := s6 _ _ (hM5.cell i c _ hc (List.getElem?_eq_getElem hiM))
    have hrow := sq.row _ (List.getElem_mem hiM)
    refine ⟨rfl, ?_⟩
    refine cat1W (K := K) (H := H6') (L := L2) (ta := tVar 10) (te := tC (V.int 1)) (xs := (M[i]).map V.int) (ds := (M[i]).map PyData.int) (d := .int 1) hacc (by rw [List.length_map]; omega) (dp_ints _) (fun Q1 kk => ⟨_, rfl, kk c H6' (Same.refl _) hcell⟩) (fun H7 Q1 s7 kk => kk _ _ (Same.refl _) (.int 1)) (fun l H7 s7 hl => ?_)
    refine hk _ _ s7 ⟨_, List.getElem?_eq_getElem hiM, ?_⟩
    rw [show rowP (M[i] ++ [1]) = .list ((M[i]).map PyData.int ++ [.int 1]) by unfold rowP; rw [List.map_append]; rfl]
    exact hl
  intro ys H6 hyl hyr s6 hy
  have dB : Dp K H6 (.ref L2) (.list (M.map fun r => rowP (r ++ [1]))) := .lst (SqL.of hy) (dpAll_mk (by rw [hyl, List.length_map, List.length_map]; omega) fun i v d e1 e2 => by
    obtain ⟨r, h1, h2⟩ := hyr i v e1
    rw [List.getElem?_map, h1] at e2
    rw [← Option.some.inj e2]
    exact dp_same wo_same h2)
  have hM6 := hM5.same s6
  have D06 := D05.same s6
  have hA6 := dp_same s6 hA
  clear hM5 D05 s6 hA hyr hyl hy wk hL2
  -- the last row too short
  refine cat1D (K := K) (H := H6) (d := rowP ((row M (n - 1)).drop 1)) (xs := (ps.map V.ref).dropLast) (ds := (M.map rowP).dropLast) (by rw [List.length_dropLast, List.length_map]; omega) (dpAll_last (dp_rowsAll hM6)) (cut1 (SqL.of hM6.top) (by rw [List.length_map]; omega) (fun Q1 kk => ⟨_, rfl, kk⟩)) (fun H7 Q1 s7 kk => ?_) (fun l3 H7 s7 hC => ?_)
  · obtain ⟨c, hc1, hc2⟩ := lastOf (hM6.same s7)
    refine ⟨_, rfl, _, rfl, R, _, _, _, rfl, rfl, SqL.of (hM6.same s7).top, hc2, _, rfl, c, _, rfl, SqL.of hc1, fun q hq => kk _ _ (same_new (Same.refl _) hq) (.lst (SqL.of upd_same) ?_)⟩
    have ec : cutV ((row M (n - 1)).map V.int) (some 1) none = ((row M (n - 1)).map V.int).drop 1 := cut_lo (xs := (row M (n - 1)).map V.int) (k := 1) (by rw [List.length_map]; omega)
    rw [ec, List.map_drop]
    exact dpAll_drop 1 (dp_ints _)
  have hM7 := hM6.same s7
  have D07 := D06.same s7
  have hA7 := dp_same s7 hA6
  have hB7 := dp_same s7 dB
  clear hM6 D06 s7 hA6 dB
  refine ⟨(by show 3 ≤ sizeLine; decide), fun W1 hW1 => ?_⟩
  have s8 := same_new (o := .lst [.ref l1, .ref L2, .ref l3]) (Same.refl H7) hW1
  have hW : upd H7 W1 (.lst [.ref l1, .ref L2, .ref l3]) W1 = some (.lst [.ref l1, .ref L2, .ref l3]) := upd_same
  refine ⟨_, rfl, (by show 1 ≤ sizeLine; decide), fun o ho => ⟨(by show 4 ≤ sizeLine; decide), fun q hq => ⟨q, rfl, ⟨_, SqL.of upd_same⟩, fun L3 hL3 => ?_⟩⟩⟩
  have s9 := same_new (o := .lst [.int 1]) s8 ho
  have s9' := same_new (o := .lst [.int 1]) (Same.refl _) ho
  have s10 := same_new (o := .lst [.bl true, .non, .str (Str.ofString "1"), .ref o]) s9 hq
  have s10' := same_new (o := .lst [.bl true, .non, .str (Str.ofString "1"), .ref o]) s9' hq
  have hq10 : upd (upd (upd H7 W1 (.lst [.ref l1, .ref L2, .ref l3])) o (.lst [.int 1])) q (.lst [.bl true, .non, .str (Str.ofString "1"), .ref o]) q = some (.lst [.bl true, .non, .str (Str.ofString "1"), .ref o]) := upd_same
  have ho10 : upd (upd (upd H7 W1 (.lst [.ref l1, .ref L2, .ref l3])) o (.lst [.int 1])) q (.lst [.bl true, .non, .str (Str.ofString "1"), .ref o]) o = some (.lst [.int 1]) := by rw [upd_ne (ne_of_none upd_same hq), upd_same]
  have hW10 := s10' _ _ hW
  clear s9 s9' s10' s8 hW
  generalize upd (upd (upd H7 W1 (.lst [.ref l1, .ref L2, .ref l3])) o (.lst [.int 1])) q (.lst [.bl true, .non, .str (Str.ofString "1"), .ref o]) = H8 at s10 hq10 ho10 hW10 hL3
  have hM8 := hM7.same s10
  have D08 := D07.same s10
  have hA8 := dp_same s10 hA7
  have hB8 := dp_same s10 hB7
  have hC8 := dp_same s10 hC
  have hOd : DpAll K H8 [.bl true, .non, .str (Str.ofString "1"), .ref o] oddDs := .cons (.bl true) (.cons .non (.cons (.str _) (.cons (.lst (SqL.of ho10) (.cons (.int 1) .nil)) .nil)))
  clear hM7 D07 s10 hA7 hB7 hC hW1 ho hq
  have wk := (walk_list (K := K) (a := q) (xs := [.bl true, .non, .str (Str.ofString "1"), .ref o])).mono (G' := fun H' => Same H8 H') (fun H' s' => s'.seq (SqL.of hq10)) fun _ _ _ _ _ _ y => y
  refine lc_same wk hL3 (show 4 ≤ 1000 by decide) (fun _ z => z) (fun i y Hw => ∃ x, oddDs[i]? = some x ∧ Dp K Hw y (dOdd M n x)) (fun i y Ha Hb s ⟨r, h1, h2⟩ => ⟨r, h1, dp_same s h2⟩) ?_ ?_
  · rintro i x H9 H9' k9 hi s9 ⟨acc, hacc⟩ ⟨rfl, hx⟩ hk
    obtain ⟨e, he1, he2⟩ := dpAll_get hOd hx
    have sw : Same H8 (wo H9' L3) := (wo_free hL3).trans (wo_mono s9)
    have hM9 := hM8.same s9
    refine ⟨rfl, ?_⟩
    refine cat1W (K := K) (H := H9') (L := L3) (d := .list (((row M (n - 1)).map PyData.int).dropLast ++ [e])) (xs := (ps.map V.ref).dropLast) (ds := (M.map rowP).dropLast) hacc (by rw [List.length_dropLast, List.length_map]; omega) (dpAll_last (dpAll_same sw (dp_rowsAll hM8))) (cut1 (SqL.of hM9.top) (by rw [List.length_map]; omega) (fun Q1 kk => ⟨_, rfl, kk⟩)) (fun H10 Q1 s10 kk => ?_) (fun l H10 s10 hl => hk _ _ s10 ⟨e, he1, hl⟩)
    obtain ⟨c, hc1, hc2⟩ := lastOf (hM9.same s10)
    refine cat1W (K := K) (H := H10) (L := L3) (d := e) (xs := ((row M (n - 1)).map V.int).dropLast) (ds := ((row M (n - 1)).map PyData.int).dropLast) (s10 _ _ hacc) (by rw [List.length_dropLast, List.length_map]; omega) (dpAll_last (dp_ints _)) (cut1 (SqL.of hc1) (by rw [List.length_map]; omega) (fun Q2 kk => ⟨_, rfl, _, rfl, R, _, _, _, rfl, rfl, SqL.of (hM9.same s10).top, hc2, kk⟩)) (fun H11 Q2 s11 kk2 => ⟨_, rfl, kk2 _ _ (Same.refl _) (dp_same (sw.trans (wo_mono (s10.trans s11))) he2)⟩) (fun l H11 s11 hl => kk _ _ s11 hl)
  intro ys H9 hyl hyr s9 hy
  have dY : DpAll K H9 ys (oddDs.map (dOdd M n)) := dpAll_mk (by rw [hyl]; rfl) fun i v d e1 e2 => by
    obtain ⟨r, h1, h2⟩ := hyr i v e1
    rw [List.getElem?_map, h1] at e2
    rw [← Option.some.inj e2]
    exact dp_same wo_same h2
  refine ⟨W1, L3, _, _, rfl, rfl, s9 _ _ hW10, hy, ?_, fun W2 hW2 => ?_⟩
  · rw [hyl]
    exact (by decide : 3 + 4 ≤ sizeLine)
  have s10 := same_new (o := .lst ([.ref l1, .ref L2, .ref l3] ++ ys)) (Same.refl H9) hW2
  have hW : upd H9 W2 (.lst ([.ref l1, .ref L2, .ref l3] ++ ys)) W2 = some (.lst ([.ref l1, .ref L2, .ref l3] ++ ys)) := upd_same
  refine ⟨_, rfl, ?_⟩
  generalize upd H9 W2 (.lst ([.ref l1, .ref L2, .ref l3] ++ ys)) = H10 at s10 hW
  have s810 := s9.trans s10
  have hM10 := hM8.same s810
  have D10 := D08.same s810
  have dW : DpAll K H10 ([.ref l1, .ref L2, .ref l3] ++ ys) ([.list (M.map rowP ++ [rowP (row M 0)]), .list (M.map fun r => rowP (r ++ [1])), .list ((M.map rowP).dropLast ++ [rowP ((row M (n - 1)).drop 1)])] ++ oddDs.map (dOdd M n)) := dpAll_append (.cons (dp_same s810 hA8) (.cons (dp_same s810 hB8) (.cons (dp_same s810 hC8) .nil))) (dpAll_same s10 dY)
  have hyl' : ys.length = 4 := hyl
  clear hA8 hB8 hC8 dY hyr hy s9 s10 s810 hW10 hL3 wk hOd hM8 D08 hq10 ho10 hW2 hyl
  refine cat1D (K := K) (H := H10) (d := .int 5) (xs := (ps.map V.ref).dropLast) (ds := (M.map rowP).dropLast) (by rw [List.length_dropLast, List.length_map]; omega) (dpAll_last (dp_rowsAll hM10)) (cut1 (SqL.of hM10.top) (by rw [List.length_map]; omega) (fun Q1 kk => ⟨_, rfl, kk⟩)) (fun H11 Q1 s11 kk => kk _ _ (Same.refl _) (.int 5)) (fun l5 H11 s11 h5 => ?_)
  refine ⟨(by show 3 ≤ sizeLine; decide), fun q4 hq4 => ?_⟩
  have s12 := same_new (o := .lst [.non, .int 3, .ref l5]) (Same.refl H11) hq4
  refine ⟨W2, q4, _, _, rfl, rfl, s12 _ _ (s11 _ _ hW), upd_same, ?_, fun q5 hq5 => ?_⟩
  · rw [List.length_append, hyl']
    exact (by decide : 3 + 4 + 3 ≤ sizeLine)
  have s13 := same_new (o := .lst (([.ref l1, .ref L2, .ref l3] ++ ys) ++ [.non, .int 3, .ref l5])) s12 hq5
  have hq : upd (upd H11 q4 (.lst [.non, .int 3, .ref l5])) q5 (.lst (([.ref l1, .ref L2, .ref l3] ++ ys) ++ [.non, .int 3, .ref l5])) q5 = some (.lst (([.ref l1, .ref L2, .ref l3] ++ ys) ++ [.non, .int 3, .ref l5])) := upd_same
  refine ⟨q5, rfl, ⟨_, SqL.of hq⟩, fun L6 hL6 => ?_⟩
  generalize upd (upd H11 q4 (.lst [.non, .int 3, .ref l5])) q5 (.lst (([.ref l1, .ref L2, .ref l3] ++ ys) ++ [.non, .int 3, .ref l5])) = H12 at s13 hq hL6
  have D12 := (D10.same s11).same s13
  have dAll : DpAll K H12 (([.ref l1, .ref L2, .ref l3] ++ ys) ++ [.non, .int 3, .ref l5]) (([.list (M.map rowP ++ [rowP (row M 0)]), .list (M.map fun r => rowP (r ++ [1])), .list ((M.map rowP).dropLast ++ [rowP ((row M (n - 1)).drop 1)])] ++ oddDs.map (dOdd M n)) ++ [.none, .int 3, .list ((M.map rowP).dropLast ++ [.int 5])]) := dpAll_append (dpAll_same (s11.trans s13) dW) (.cons .non (.cons (.int 3) (.cons (dp_same s13 h5) .nil)))
  have allBad := all_bad sq hn hpos
  have wk := (walk_list (K := K) (a := q5) (xs := ([.ref l1, .ref L2, .ref l3] ++ ys) ++ [.non, .int 3, .ref l5])).mono (G' := fun H' => Same H12 H') (fun H' s' => s'.seq (SqL.of hq)) fun _ _ _ _ _ _ y => y
  refine lc_same wk hL6 (by rw [List.length_append, List.length_append, hyl']; exact (show 3 + 4 + 3 ≤ 1000 by decide)) (fun _ z => z) (fun i y Hw => y = V.bl true) (fun _ _ _ _ _ z => z) ?_ ?_
  · rintro i x H13 H13' k13 hi s13 _ ⟨rfl, hx⟩ hk
    obtain ⟨e, he1, he2⟩ := dpAll_get dAll hx
    obtain ⟨b1, b2, b3⟩ := allBad e (List.mem_of_getElem? he1)
    exact ⟨rfl, _, rfl, x, e, rfl, dp_same s13 he2, b3, b1, b2, fun H14 s14 => hk _ _ s14 rfl⟩
  intro zs H13 hzl hzr s13 hz
  have ez : zs = (List.replicate zs.length true).map V.bl := by
    rw [List.map_replicate]
    exact List.eq_replicate_of_mem fun y hy => by
      obtain ⟨i, hi⟩ := List.mem_iff_getElem?.mp hy
      exact hzr i y hi
  refine ⟨L6, List.replicate zs.length true, rfl, SqL.of (by rw [← ez]; exact hz), _, rfl, ?_⟩
  refine iteBF (by rw [show (List.replicate zs.length true).all id = true from List.all_eq_true.mpr fun x hx => (List.eq_of_mem_replicate hx)]; rfl) ?_
  exact k _ _ _ _ _ _ (D12.same s13)
def spLaw (K : PySem.W.Frag) : Sp := fun vs H Q _ => ∃ (a : Addr) (ns : List Int), vs = [.ref a] ∧ SqL K H a (ns.map V.int) ∧ ns.length ≤ 63 ∧ ∀ H', Q (.bl true) H'
theorem ok_law {f : Addr} {fd : FuncData} (F : Fun K "law" "law" s_law f fd) (T : Txt K mg) : FnOk P w K mg base CX0 7 f fd ["_law_script"] (spLaw K) := by
  refine F.ok sc_law (fun vs H Q E h => ?_) (fun cdv A outer s H vs Q E hr h => ?_)
  · obtain ⟨a, ns, rfl, _⟩ := h
    rfl
  · obtain ⟨a, ns, rfl, hS, hlen, k⟩ := h
    refine ⟨_, (pss_cons (ps_for PassesOwn.never (by rfl) (pi_range1 (by rfl) T.g_range (pa_cons (pe_callB (id := "max") (call_max2 rfl) (by rfl) T.g_max (by decide +kernel) (pa_cons pe_int (pa_cons (pe_callB (id := "min") (call_min2 rfl) (by rfl) T.g_min (by decide +kernel) (pa_cons (pe_callB (id := "len") (k_len (K := K) rfl) (by rfl) T.g_len (by decide +kernel) (pa_cons (pv 0) pa_nil)) (pa_cons pe_int pa_nil))) pa_nil))) pa_nil)) (pg_name (i := 1) sc_law.nd rfl (Or.inl rfl))
      (pss_cons (ps_set (i := 2) sc_law.nd rfl (Or.inl rfl) (pe_call (ok_l_pool T) (hr.mono (by decide)) (by rfl) T.l_pool.mgf T.l_pool.F.kp T.l_pool.b .nil pass0 (pa_cons (pv 0) (pa_cons (pv 1) pa_nil))))
      (pss_cons (ps_set (i := 3) sc_law.nd rfl (Or.inr rfl) (pe_call (ok_l_table T) (hr.mono (by decide)) (by rfl) T.l_table.mgf T.l_table.F.kp T.l_table.b .nil pass0 (pa_cons (pv 2) pa_nil)))
      (pss_cons (ps_setLc (own := [("_law_row", 10)]) (i := 4) (by rfl) sc_law.nd rfl rfl (sw_true rfl rfl rfl (by decide +kernel)) (kpi_list (K := K) rfl (pv 3)) (blkOk_by (own := [("_law_row", 10)]) (N := n_law) (sc := defScope s_law) (by decide +kernel)) (fun _ _ _ _ _ => by exact (pg_name (i := 10) sc_law.nd rfl (Or.inl rfl))) (fun _ _ _ _ _ => by exact pts_nil) (fun _ _ _ _ _ => by exact (pe_callTy (T := "list") (k_list (K := K) rfl) (by rfl) T.g_list (by decide +kernel) (pa_cons (pv 10) pa_nil))))
      (pss_cons (ps_set (i := 5) sc_law.nd rfl (Or.inl rfl) (pe_call (ok_l_expanded T) (hr.mono (by decide)) (by rfl) T.l_expanded.mgf T.l_expanded.F.kp T.l_expanded.b .nil pass0 (pa_cons (pv 3) pa_nil)))
      (pss_cons (ps_if (PW.pt (pw_or (pt_not (pt_val (pe_call (ok_l_integer T) (hr.mono (by decide)) (by rfl) T.l_integer.mgf T.l_integer.F.kp T.l_integer.b .nil pass0 (pa_cons (pe_call (ok_determinant T) (hr.mono (by decide)) (by rfl) T.determinant.mgf T.determinant.F.kp T.determinant.b .nil passL (pa_cons (pv 4) pa_nil)) (pa_cons (pv 5) pa_nil))))) (pw_or1 (pt_cmpR (kop_neD (K := K) rfl hr.units) (pv 4) (pv 3) (nomark _))))) (pss_one (ps_ret pe_bl)) pss_nil)
      (pss_cons (ps_if (pt_not (pt_val (pe_call (ok_l_integer T) (hr.mono (by decide)) (by rfl) T.l_integer.mgf T.l_integer.F.kp T.l_integer.b .nil pass0 (pa_cons (pe_call (ok_determinant T) (hr.mono (by decide)) (by rfl) T.determinant.mgf T.determinant.F.kp T.determinant.b .nil passL (pa_cons (pe_callTy (T := "tuple") (k_tuple (K := K) rfl) (by rfl) T.g_tuple (by decide +kernel) (pa_cons (pe_lc (own := [("_law_row", 10)]) (by rfl) sc_law.nd (kpi_list (K := K) rfl (pv 3)) (blkOk_by (own := [("_law_row", 10)]) (N := n_law) (sc := defScope s_law) (by decide +kernel)) (fun _ _ _ _ _ => by exact (pg_name (i := 10) sc_law.nd rfl (Or.inl rfl))) (fun _ _ _ _ _ => by exact pts_nil) (fun _ _ _ _ _ => by exact (pe_callTy (T := "tuple") (k_tuple (K := K) rfl) (by rfl) T.g_tuple (by decide +kernel) (pa_cons (pv 10) pa_nil)))) pa_nil)) pa_nil)) (pa_cons (pv 5) pa_nil))))) (pss_one (ps_ret pe_bl)) pss_nil)
      (pss_cons (ps_if (pt_cmpR op_gt (pe_callB (id := "len") (k_len (K := K) rfl) (by rfl) T.g_len (by decide +kernel) (pa_cons (pv 3) pa_nil)) pe_int (nomark _)) (pss_cons (ps_set (i := 6) sc_law.nd rfl (Or.inl rfl) (pe_op op_cat (pe_lst (pa_cons (pe_ix (kix_list (K := K) rfl) (pv 3) pe_int (fun _ _ => rfl)) (pa_cons (pe_ix (kix_list (K := K) rfl) (pv 3) pe_int (fun _ _ => rfl)) pa_nil))) (pe_slice (ksl_list (K := K) rfl) (pv 3) (po_some pe_int) po_none)))
      (pss_cons (ps_setLc (own := [("_law_column", 11)]) (i := 7) (by rfl) sc_law.nd rfl rfl (sw_true rfl rfl rfl (by decide +kernel)) (pi_range1 (by rfl) T.g_range (pa_cons (pe_callB (id := "len") (k_len (K := K) rfl) (by rfl) T.g_len (by decide +kernel) (pa_cons (pv 3) pa_nil)) pa_nil)) (blkOk_by (own := [("_law_column", 11)]) (N := n_law) (sc := defScope s_law) (by decide +kernel)) (fun _ _ _ _ _ => by exact (pg_name (i := 11) sc_law.nd rfl (Or.inr rfl))) (fun _ _ _ _ _ => by exact pts_nil) (fun _ _ _ _ _ => by exact (pe_lc (own := [("_law_row", 10)]) (by rfl) sc_law.nd (by exact (kpi_list (K := K) rfl (pv 3))) (blkOk_by (own := [("_law_row", 10)]) (N := n_law) (sc := { kind := .function, names := [(".0", .local), ("_law_column", .cell), ("_law_table_here", .cell)], isGenerator := false, isCoroutine := false, more := [] }) (by decide +kernel)) (fun _ _ _ _ _ => by exact (pg_name (i := 10) sc_law.nd rfl (Or.inl rfl))) (fun _ _ _ _ _ => by exact pts_nil) (fun _ _ _ _ _ => by exact (pe_ix (kix_list (K := K) rfl) (pv 10) (pv 11) (fun _ _ => rfl))))))
      (pss_one (ps_if (PW.pt (pw_or (pt_cmpR op_ne (pe_call (ok_determinant T) (hr.mono (by decide)) (by rfl) T.determinant.mgf T.determinant.F.kp T.determinant.b .nil passL (pa_cons (pv 6) pa_nil)) (pe_op op_sub pe_int (pv 5)) (nomark _)) (pw_or1 (pt_cmpR op_ne (pe_call (ok_determinant T) (hr.mono (by decide)) (by rfl) T.determinant.mgf T.determinant.F.kp T.determinant.b .nil passL (pa_cons (pv 7) pa_nil)) (pv 5) (nomark _))))) (pss_one (ps_ret pe_bl)) pss_nil)))) pss_nil)
      (pss_one (ps_if (pt_cmpR (kop_neD (K := K) rfl hr.units) (pv 3) (pe_lst pa_nil) (nomark _)) (pss_cons (ps_set (i := 8) sc_law.nd rfl (Or.inr rfl) (pe_op op_sub (pe_call (ok_l_draw T) (hr.mono (by decide)) (by rfl) T.l_draw.mgf T.l_draw.F.kp T.l_draw.b .nil pass0 (pa_cons (pv 2) (pa_cons pe_int pa_nil))) pe_int))
      (pss_cons (ps_if (pt_cmpR op_ne (pe_call (ok_determinant T) (hr.mono (by decide)) (by rfl) T.determinant.mgf T.determinant.F.kp T.determinant.b .nil passL (pa_cons (pe_op op_cat (pe_lst (pa_cons (pe_lc (own := [("_law_one", 13)]) (by rfl) sc_law.nd (kpi_list (K := K) rfl (pe_ix (kix_list (K := K) rfl) (pv 3) pe_int (fun _ _ => rfl))) (blkOk_by (own := [("_law_one", 13)]) (N := n_law) (sc := defScope s_law) (by decide +kernel)) (fun _ _ _ _ _ => by exact (pg_name (i := 13) sc_law.nd rfl (Or.inl rfl))) (fun _ _ _ _ _ => by exact pts_nil) (fun _ _ _ _ _ => by exact (pe_op op_mul (pv 8) (pv 13)))) pa_nil)) (pe_slice (ksl_list (K := K) rfl) (pv 3) (po_some pe_int) po_none)) pa_nil)) (pe_op op_mul (pv 8) (pv 5)) (nomark _)) (pss_one (ps_ret pe_bl)) pss_nil)
      (pss_cons (ps_set (i := 9) sc_law.nd rfl (Or.inl rfl) (pe_lst (pa_cons (pe_op op_cat (pv 3) (pe_lst (pa_cons (pe_ix (kix_list (K := K) rfl) (pv 3) pe_int (fun _ _ => rfl)) pa_nil))) (pa_cons (pe_lc (own := [("_law_row", 10)]) (by rfl) sc_law.nd (kpi_list (K := K) rfl (pv 3)) (blkOk_by (own := [("_law_row", 10)]) (N := n_law) (sc := defScope s_law) (by decide +kernel)) (fun _ _ _ _ _ => by exact (pg_name (i := 10) sc_law.nd rfl (Or.inl rfl))) (fun _ _ _ _ _ => by exact pts_nil) (fun _ _ _ _ _ => by exact (pe_op op_cat (pv 10) (pe_lst (pa_cons pe_int pa_nil))))) (pa_cons (pe_op op_cat (pe_slice (ksl_list (K := K) rfl) (pv 3) po_none (po_some (pe_un un_neg pe_int))) (pe_lst (pa_cons (pe_slice (ksl_list (K := K) rfl) (pe_ix (kix_list (K := K) rfl) (pv 3) (pe_un un_neg pe_int) (fun _ _ => rfl)) (po_some pe_int) po_none) pa_nil))) pa_nil)))))
      (pss_cons (ps_set (i := 9) sc_law.nd rfl (Or.inl rfl) (pe_op op_cat (pv 9) (pe_lc (own := [("_law_odd", 12)]) (by rfl) sc_law.nd (kpi_list (K := K) rfl (pe_lst (pa_cons pe_bl (pa_cons pe_non (pa_cons pe_str (pa_cons (pe_lst (pa_cons pe_int pa_nil)) pa_nil)))))) (blkOk_by (own := [("_law_odd", 12)]) (N := n_law) (sc := defScope s_law) (by decide +kernel)) (fun _ _ _ _ _ => by exact (pg_name (i := 12) sc_law.nd rfl (Or.inl rfl))) (fun _ _ _ _ _ => by exact pts_nil) (fun _ _ _ _ _ => by exact (pe_op op_cat (pe_slice (ksl_list (K := K) rfl) (pv 3) po_none (po_some (pe_un un_neg pe_int))) (pe_lst (pa_cons (pe_op op_cat (pe_slice (ksl_list (K := K) rfl) (pe_ix (kix_list (K := K) rfl) (pv 3) (pe_un un_neg pe_int) (fun _ _ => rfl)) po_none (po_some (pe_un un_neg pe_int))) (pe_lst (pa_cons (pv 12) pa_nil))) pa_nil)))))))
      (pss_one (ps_if (pt_not (pt_val (pe_callB (id := "all") (k_all (K := K) rfl rfl) (by rfl) T.g_all (by decide +kernel) (pa_cons (pe_lc (own := [("_law_one", 13)]) (by rfl) sc_law.nd (kpi_list (K := K) rfl (pe_op op_cat (pv 9) (pe_lst (pa_cons pe_non (pa_cons pe_int (pa_cons (pe_op op_cat (pe_slice (ksl_list (K := K) rfl) (pv 3) po_none (po_some (pe_un un_neg pe_int))) (pe_lst (pa_cons pe_int pa_nil))) pa_nil)))))) (blkOk_by (own := [("_law_one", 13)]) (N := n_law) (sc := defScope s_law) (by decide +kernel)) (fun _ _ _ _ _ => by exact (pg_name (i := 13) sc_law.nd rfl (Or.inl rfl))) (fun _ _ _ _ _ => by exact pts_nil) (fun _ _ _ _ _ => by exact (pe_call (ok_l_refused T) (hr.mono (by decide)) (by rfl) T.l_refused.mgf T.l_refused.F.kp T.l_refused.b .nil pass0 (pa_cons (pv 13) pa_nil)))) pa_nil)))) (pss_one (ps_ret pe_bl)) pss_nil)))))) pss_nil))))))))))
      (pss_one (ps_ret pe_bl))), ?_⟩
    refine ⟨_, rfl, a, _, rfl, .inl hS, _, _, rfl, _, _, rfl, _, rfl, ?_⟩
    obtain ⟨m0, m1⟩ := max_min (n := ((ns.map V.int).length : Int)) (k := 12) (by omega) (by decide)
    refine ⟨by omega, by omega, for_range (lo := 0) (fun i σ H' => Same H H' ∧ ∃ v1 v2 v3 v4 v5 v6 v7 v8 v9 v10 v11 v12 v13, σ = [some (.ref a), v1, v2, v3, v4, v5, v6, v7, v8, v9, v10, v11, v12, v13]) ⟨Same.refl _, _, _, _, _, _, _, _, _, _, _, _, _, _, rfl⟩ ?_ ?_⟩
    · rintro i σ H' hi ⟨sm, v1, v2, v3, v4, v5, v6, v7, v8, v9, v10, v11, v12, v13, rfl⟩
      rw [Int.zero_add]
      have hi2 : i < 12 := by omega
      refine ⟨_, rfl, _, rfl, a, ns, i, rfl, sm.seq hS, by omega, fun p H5 hp s5 P5 => ?_⟩
      have hp0 : H p = none := sm.free hp
      have s05 := sm.trans s5
      refine ⟨_, rfl, p, rfl, P5, fun R ps M n H6 hn sq bd hR D6 hM fr => ?_⟩
      have fR : R ≠ p := by
        obtain ⟨c, s, h, _⟩ := P5
        exact (ne_of_none h hR).symm
      have fr' : ∀ q ∈ ps, q ≠ p := fun q hq => (fr q hq).2.2
      have hMl := sq.len
      have hpl := hM.len
      have bd6 : Bd 60 M := fun r hr x hx => Nat.lt_trans (bd r hr x hx) (by decide)
      -- the copy
      refine ⟨_, rfl, R, rfl, ⟨_, SqL.of hM.top⟩, fun L hL => ?_⟩
      have wk := (walk_list (K := K) (a := R) (xs := ps.map V.ref)).mono (G' := fun H' => Same H6 H') (fun H' s' => s'.seq (SqL.of hM.top)) fun _ _ _ _ _ _ y => y
      refine lc_same wk hL (by rw [List.length_map]; omega) (fun _ z => z) (fun i y Hw => ∃ c, y = V.ref c ∧ ∃ r, M[i]? = some r ∧ Hw c = some (.lst (r.map V.int))) (fun i y Ha Hb s ⟨c, h1, r, h2, h3⟩ => ⟨c, h1, r, h2, s _ _ h3⟩) ?_ ?_
      · rintro j x H7 H7' k7 hj s7 ⟨acc, hacc⟩ ⟨rfl, hx⟩ hk
        obtain ⟨c, hc, rfl⟩ := get_ref hx
        have hiM : j < M.length := by have := (List.getElem?_eq_some_iff.mp hc).1; omega
        have hcell := s7 _ _ (hM.cell j c _ hc (List.getElem?_eq_getElem hiM))
        refine ⟨rfl, _, rfl, c, _, rfl, .inl (SqL.of hcell), fun l hl => hk _ _ (same_new (Same.refl _) hl) ⟨l, rfl, _, List.getElem?_eq_getElem hiM, ?_⟩⟩
        rw [wo_ne (ne_of_none hacc hl).symm, upd_same]
      intro ys H7 hyl hyr s7 hy
      obtain ⟨qs, rfl, hqs⟩ := refs_of hyr
      rw [List.length_map, List.length_map] at hyl
      have hL7 : RowsAt H7 L qs M := ⟨hy, by omega, fun j c r e1 e2 => by
        obtain ⟨r', h1, h2⟩ := hqs j c e1
        rw [e2] at h1
        rw [Option.some.inj h1]
        exact wo_same _ _ h2⟩
      have hM7 := hM.same s7
      -- what is due
      refine ⟨_, rfl, n, hn, R, ps, M, rfl, hM7, sq, bd6, fun H8 s8 => ?_⟩
      have hM8 := hM7.same s8
      have hL8 := hL7.same s8
      refine ⟨_, rfl, _, matP M, rfl, dp_rows hL8, matP_few sq hn, (fun z => by rw [matP_sqr sq] at z; cases z), fun _ => ⟨by rw [matP_mat, sq.len]; exact hn, by rw [matP_mat]; exact bd6, fun H9 s9 => ?_⟩⟩
      rw [matP_mat, bare_expd hn sq]
      have hM9 := hM8.same s9
      have hL9 := hL8.same s9
      refine ⟨_, rfl, _, _, rfl, rfl, _, rfl, ?_⟩
      refine ⟨_, rfl, _, rfl, matP M, matP M, dp_rows hL9, dp_rows hM9, (matP_shp M).shaped (by decide), (matP_shp M).shaped (by decide), _, rfl, ?_⟩
      refine iteBF (by rw [SeqAt.eqv_refl _ (SeqAt.canLay_of_shaped ((matP_shp M).shaped (by decide)))]; rfl) ?_
      -- of tuples
      refine ⟨_, rfl, R, rfl, ⟨_, SqL.of hM9.top⟩, fun L2 hL2 => ?_⟩
      have wk2 := (walk_list (K := K) (a := R) (xs := ps.map V.ref)).mono (G' := fun H' => Same H9 H') (fun H' s' => s'.seq (SqL.of hM9.top)) fun _ _ _ _ _ _ y => y
      refine lc_same wk2 hL2 (by rw [List.length_map]; omega) (fun _ z => z) (fun i y Hw => ∃ c, y = V.ref c ∧ ∃ r, M[i]? = some r ∧ Hw c = some (.tup (r.map V.int))) (fun i y Ha Hb s ⟨c, h1, r, h2, h3⟩ => ⟨c, h1, r, h2, s _ _ h3⟩) ?_ ?_
      · rintro j x H10 H10' k10 hj s10 ⟨acc, hacc⟩ ⟨rfl, hx⟩ hk
        obtain ⟨c, hc, rfl⟩ := get_ref hx
        have hiM : j < M.length := by have := (List.getElem?_eq_some_iff.mp hc).1; omega
        have hcell := s10 _ _ (hM9.cell j c _ hc (List.getElem?_eq_getElem hiM))
        refine ⟨rfl, _, rfl, c, _, rfl, .inl ⟨SqL.of hcell, fun l hl => hk _ _ (same_new (Same.refl _) hl) ⟨l, rfl, _, List.getElem?_eq_getElem hiM, ?_⟩⟩⟩
        rw [wo_ne (ne_of_none hacc hl).symm, upd_same]
      intro zs H10 hzl hzr s10 hz
      have dT : DpAll K H10 zs (M.map rowT) := dpAll_mk (by rw [hzl, List.length_map, List.length_map]; omega) fun j v d e1 e2 => by
        obtain ⟨c, rfl, r, h2, h3⟩ := hzr j v e1
        rw [List.getElem?_map, h2] at e2
        rw [← Option.some.inj e2]
        exact .tup (SqT.of (wo_same _ _ h3)) (dp_ints r)
      refine ⟨L2, _, rfl, .inl ⟨SqL.of hz, fun l hl => ?_⟩⟩
      have s11 := same_new (o := .tup zs) (Same.refl H10) hl
      refine ⟨_, matT M, rfl, .tup (SqT.of upd_same) (dpAll_same s11 dT), matT_few sq hn, (fun z => by rw [matT_sqr sq] at z; cases z), fun _ => ⟨by rw [matT_mat, sq.len]; exact hn, by rw [matT_mat]; exact bd6, fun H12 s12 => ?_⟩⟩
      rw [matT_mat, bare_expd hn sq]
      refine ⟨_, rfl, _, _, rfl, rfl, _, rfl, ?_⟩
      have s612 := (((s7.trans s8).trans s9).trans s10).trans (s11.trans s12)
      refine mid_run (K := K) (C := T.C_InvalidRows) (hM.same s612) sq hn bd fun H13 w6 w7 w10 w11 s13 => ?_
      have D13 := (D6.same s612).same s13
      refine odd_run (K := K) (C := T.C_InvalidRows) ((hM.same s612).same s13) sq hn bd D13.2 fR fr' fun H14 w8 w9 w10' w12 w13 D14 => ?_
      exact ⟨(D13.trans D14).keep s05 hp0, _, _, _, _, _, _, _, _, _, _, _, _, _, rfl⟩
    · rintro σ H' ⟨sm, v1, v2, v3, v4, v5, v6, v7, v8, v9, v10, v11, v12, v13, rfl⟩
      exact k _

end
theorem walk {l : PySem.W.OpenLaw} {q : Program} {loose : List Str} {XP : (Str → Option Value) → Heap → Prop} {YP : World → Heap → Prop} {d : DefRec} {K : Params → PySem.W.Frag} (hn : l.most = some 63) (hdf : d.params.defaults = [])
    (hY : ∀ (w : World) (h : Heap), YP w h → (K w.params).In h)
    (F : ∀ (w : World) (mg : Str → Option Value) (fa : Addr) (h : Heap), (K w.params).In h → h.Ns mainGlobals mg → mg d.name = some (.ref fa) →
      ∃ fd : FuncData, (∀ (s : Shared) (u : Value), BindsTo s fd ⟨[u], []⟩ [("_law_script", u)]) ∧ ∀ base : Heap, (K w.params).In base → base.Ns mainGlobals mg → FnOk l.prog w (K w.params) mg base CX0 7 fa fd ["_law_script"] (spLaw (K w.params))) :
    PySem.W.WalkO q loose XP YP l.row.toRowW d [] (fun f vs => PySem.call f vs) :=
  L2.walk_ofB (n := 63) (k := 7) (x := "_law_script") (CX := fun _ => CX0) (sp := fun w => spLaw (K w.params)) hn (by decide) hdf ⟨rfl, by decide, by decide⟩ hY F (fun _ _ a ns hl hb _ hS => ⟨a, ns, rfl, hS, hl, fun _ => rfl⟩) fun _ _ _ _ _ z => z
theorem law_mk {l : PySem.W.OpenLaw} {w : World} {K : PySem.W.Frag} {h : Heap} {mg : Str → Option Value} {fa f : Addr} (X : K.In h) (G : h.Ns mainGlobals mg) (hfa : mg "law" = some (.ref fa)) (T : Txt K mg)
    {od an : Option Addr} {sl : Array (Option Value)} {oc kV dc pm cd ct : Value} (a : PySem.W.nsIn K mainGlobals "law" = some (some (.ref f))) (l0 : K.lookup f = some ⟨oc, od, .func (PySem.W.fnOf "law" "law" (defArgs s_law) (defBody s_law) (defScope s_law) .none kV dc pm an cd ct), sl⟩) (c : PySem.W.codeIn K cd "law" = true) (k : PySem.W.keepIn K (.ref f) = true) :
    ∃ fd : FuncData, (∀ (s : Shared) (v : Value), BindsTo s fd ⟨[v], []⟩ [("_law_script", v)]) ∧ ∀ base : Heap, K.In base → base.Ns mainGlobals mg → FnOk l.prog w K mg base CX0 7 fa fd ["_law_script"] (spLaw K) := by
  have e := hfa.symm.trans (PySem.W.mg_of X G a)
  cases e
  exact ⟨_, fun s v => .of_eq rfl, fun base _ _ => ok_law (fun_mk (st := s_law) l0 c k) T⟩
end My
open PySem PySem.W PyProof.Rows
set_option maxRecDepth 100000 in
set_option maxHeartbeats 0 in
theorem PySem.Challenge.cw_twodivisions_k50_determinants_holds : PySem.Challenge.rw_twodivisions_k50_determinants.Holds := by
  w_on; o_law; k_head; (case hw => w_witness2)
  k_fill
  refine My.walk (l := PySem.Challenge.rw_twodivisions_k50_determinants) rfl rfl (fun w h Y => PySem.W.kIn_of Y) ?F
  case F =>
    intro w mg fa h KX G hmg
    obtain ⟨f0, d0, i0⟩ : ∃ (f : Addr) (fd : FuncData), My.Is _ mg "is_integer" My.s_is_integer ["value"] f fd := by
      refine' My.is_mk KX G ?a ?l ?c ?k (fun _ _ _ _ _ _ us hl => match us, hl with | [_], _ => rfl); (case a => k_is); (case l => k_is); (case c => k_is); (case k => k_is)
    obtain ⟨f1, d1, i1⟩ : ∃ (f : Addr) (fd : FuncData), My.Is _ mg "is_row_like" My.s_is_row_like ["value"] f fd := by
      refine' My.is_mk KX G ?a ?l ?c ?k (fun _ _ _ _ _ _ us hl => match us, hl with | [_], _ => rfl); (case a => k_is); (case l => k_is); (case c => k_is); (case k => k_is)
    obtain ⟨f2, d2, i2⟩ : ∃ (f : Addr) (fd : FuncData), My.Is _ mg "is_square" My.s_is_square ["table"] f fd := by
      refine' My.is_mk KX G ?a ?l ?c ?k (fun _ _ _ _ _ _ us hl => match us, hl with | [_], _ => rfl); (case a => k_is); (case l => k_is); (case c => k_is); (case k => k_is)
    obtain ⟨f3, d3, i3⟩ : ∃ (f : Addr) (fd : FuncData), My.Is _ mg "pivot_at" My.s_pivot_at ["rows", "at"] f fd := by
      refine' My.is_mk KX G ?a ?l ?c ?k (fun _ _ _ _ _ _ us hl => match us, hl with | [_, _], _ => rfl); (case a => k_is); (case l => k_is); (case c => k_is); (case k => k_is)
    obtain ⟨f4, d4, i4⟩ : ∃ (f : Addr) (fd : FuncData), My.Is _ mg "cleared_row" My.s_cleared_row ["row", "by", "at", "before"] f fd := by
      refine' My.is_mk KX G ?a ?l ?c ?k (fun _ _ _ _ _ _ us hl => match us, hl with | [_, _, _, _], _ => rfl); (case a => k_is); (case l => k_is); (case c => k_is); (case k => k_is)
    obtain ⟨f5, d5, i5⟩ : ∃ (f : Addr) (fd : FuncData), My.Is _ mg "determinant" My.s_determinant ["table"] f fd := by
      refine' My.is_mk KX G ?a ?l ?c ?k (fun _ _ _ _ _ _ us hl => match us, hl with | [_], _ => rfl); (case a => k_is); (case l => k_is); (case c => k_is); (case k => k_is)
    obtain ⟨f6, d6, i6⟩ : ∃ (f : Addr) (fd : FuncData), My.Is _ mg "_law_pool" My.s_l_pool ["_law_script", "_law_k"] f fd := by
      refine' My.is_mk KX G ?a ?l ?c ?k (fun _ _ _ _ _ _ us hl => match us, hl with | [_, _], _ => rfl); (case a => k_is); (case l => k_is); (case c => k_is); (case k => k_is)
    obtain ⟨f7, d7, i7⟩ : ∃ (f : Addr) (fd : FuncData), My.Is _ mg "_law_draw" My.s_l_draw ["_law_pool_here", "_law_many"] f fd := by
      refine' My.is_mk KX G ?a ?l ?c ?k (fun _ _ _ _ _ _ us hl => match us, hl with | [_, _], _ => rfl); (case a => k_is); (case l => k_is); (case c => k_is); (case k => k_is)
    obtain ⟨f8, d8, i8⟩ : ∃ (f : Addr) (fd : FuncData), My.Is _ mg "_law_expanded" My.s_l_expanded ["_law_table_here"] f fd := by
      refine' My.is_mk KX G ?a ?l ?c ?k (fun _ _ _ _ _ _ us hl => match us, hl with | [_], _ => rfl); (case a => k_is); (case l => k_is); (case c => k_is); (case k => k_is)
    obtain ⟨f9, d9, i9⟩ : ∃ (f : Addr) (fd : FuncData), My.Is _ mg "_law_table" My.s_l_table ["_law_pool_here"] f fd := by
      refine' My.is_mk KX G ?a ?l ?c ?k (fun _ _ _ _ _ _ us hl => match us, hl with | [_], _ => rfl); (case a => k_is); (case l => k_is); (case c => k_is); (case k => k_is)
    obtain ⟨f10, d10, i10⟩ : ∃ (f : Addr) (fd : FuncData), My.Is _ mg "_law_refused" My.s_l_refused ["_law_value"] f fd := by
      refine' My.is_mk KX G ?a ?l ?c ?k (fun _ _ _ _ _ _ us hl => match us, hl with | [_], _ => rfl); (case a => k_is); (case l => k_is); (case c => k_is); (case k => k_is)
    obtain ⟨f11, d11, i11⟩ : ∃ (f : Addr) (fd : FuncData), My.Is _ mg "_law_integer" My.s_l_integer ["_law_value", "_law_due"] f fd := by
      refine' My.is_mk KX G ?a ?l ?c ?k (fun _ _ _ _ _ _ us hl => match us, hl with | [_, _], _ => rfl); (case a => k_is); (case l => k_is); (case c => k_is); (case k => k_is)
    have z_len : mg "len" = none := PySem.W.mg_none_of KX G (by k_is)
    have z_int : mg "int" = none := PySem.W.mg_none_of KX G (by k_is)
    have z_range : mg "range" = none := PySem.W.mg_none_of KX G (by k_is)
    have z_min : mg "min" = none := PySem.W.mg_none_of KX G (by k_is)
    have z_max : mg "max" = none := PySem.W.mg_none_of KX G (by k_is)
    have z_isinstance : mg "isinstance" = none := PySem.W.mg_none_of KX G (by k_is)
    have z_bool : mg "bool" = none := PySem.W.mg_none_of KX G (by k_is)
    have z_list : mg "list" = none := PySem.W.mg_none_of KX G (by k_is)
    have z_tuple : mg "tuple" = none := PySem.W.mg_none_of KX G (by k_is)
    have z_all : mg "all" = none := PySem.W.mg_none_of KX G (by k_is)
    have z_zip : mg "zip" = none := PySem.W.mg_none_of KX G (by k_is)
    obtain ⟨C_InvalidRows, f_InvalidRows, d_InvalidRows, x_InvalidRows⟩ : ∃ (C f : Addr) (fd : FuncData), My.Exc1 _ mg "InvalidRows" "InvalidRows.__init__" My.s_x_InvalidRows "value" ["self", "value"] C f fd := by
      refine' My.exc1_mk KX G ?aC ?xL ?sa ?ga ?gg ?nb ?a1 ?t1 ?l1 ?c1 ?k1 ?kC ?eC ?tC ?hC ?iC ?sC (fun _ _ _ _ _ _ us hl => match us, hl with | [_, _], _ => rfl)
      (case aC => k_is)
      (case xL => k_is)
      (case sa => k_is)
      (case ga => k_is)
      (case gg => k_is)
      (case nb => k_is)
      (case a1 => k_is)
      (case t1 => k_is)
      (case l1 => k_is)
      (case c1 => k_is)
      (case k1 => k_is)
      (case kC => k_is)
      (case eC => k_is)
      (case tC => k_is)
      (case hC => k_is)
      (case iC => k_is)
      (case sC => first | rfl | k_is)
    have z_ValueError : mg "ValueError" = none := PySem.W.mg_none_of KX G (by k_is)
    refine' My.law_mk KX G hmg ⟨f0, d0, i0, f1, d1, i1, f2, d2, i2, f3, d3, i3, f4, d4, i4, f5, d5, i5, f6, d6, i6, f7, d7, i7, f8, d8, i8, f9, d9, i9, f10, d10, i10, f11, d11, i11, z_len, z_int, z_range, z_min, z_max, z_isinstance, z_bool, z_list, z_tuple, z_all, z_zip, C_InvalidRows, f_InvalidRows, d_InvalidRows, x_InvalidRows, z_ValueError, (by k_is)⟩ ?a ?l ?c ?k
    (case a => k_is)
    (case l => k_is)
    (case c => k_is)
    (case k => k_is)
