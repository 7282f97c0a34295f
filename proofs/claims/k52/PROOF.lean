import PyProof.Rows.All
import Wide.All
import OpenK.AllK
import Wide.FinOn
import HandS.ForMost
import HandS.Wide
import HandS.EndBits
import HandS.IsInst
import PySem.Challenge.RW_twodivisions_k52_check_numbers_of_texts
set_option Elab.async false
set_option maxRecDepth 100000
set_option maxHeartbeats 4000000
namespace My
open PySem L2 TL
/-! rules and relations that all the laws share -/
section
variable {X : Cx}
theorem mulOk_small {x : Str} {n : Int} (h0 : -(2 ^ 62) ≤ n) (h1 : n < 2 ^ 20) (hx : x.length ≤ 16) : MulOk x n := by
  refine ⟨?_, fun h2 _ => ?_, fun h2 _ => ?_⟩
  · rw [decide_eq_false (by omega), decide_eq_false (by omega)]
    rfl
  · have e : (2 ^ 63 - 1 : Int) / n ≥ 16 := by
      rw [ge_iff_le, Int.le_ediv_iff_mul_le (by omega)]
      omega
    omega
  · unfold Builtin.Str.tooLong
    rw [sizeLine_eq]
    refine decide_eq_false ?_
    have e : x.length * n.toNat ≤ 16 * n.toNat := Nat.mul_le_mul_right _ hx
    omega
/-- text * int -/
def rRepS : R2 := fun x y H Q => ∃ (z : Str) (n : Int), x = .str z ∧ y = .int n ∧ -(2 ^ 62) ≤ n ∧ n < 2 ^ 20 ∧ z.length ≤ 16 ∧ Q (.str (Txt.mul z n)) H
theorem op_repS : OpR X (binaryOp .Mult) rRepS := by
  intro pins s σ H x y u v Q I rx ry h
  obtain ⟨z, n, rfl, rfl, h0, h1, h2, q⟩ := h
  obtain ⟨t, rfl⟩ := rx
  obtain ⟨t', rfl⟩ := ry
  exact SB.mul (mulOk_small h0 h1 h2) fun t'' k => ⟨.str _, H, I.tok k, ⟨t'', rfl⟩, q⟩
end
/-- the turns of a text -/
theorem for_its {x : Str} {g : TG} {tb : TS} {D : Ends} {σ : L2.St} {H : Hp} (Pv : Nat → L2.St → Hp → Prop) (h0 : Pv 0 σ H)
    (hs : ∀ i c σ H, x.cps.toList[i]? = some c → Pv i σ H → g (.str ⟨#[c]⟩) σ H fun σ2 H2 => tb { D with nx := Pv (i + 1), ct := Pv (i + 1), bk := D.nx } σ2 H2) (hd : ∀ σ H, Pv x.cps.toList.length σ H → D.nx σ H) :
    ∃ W : Nat → Nat → L2.St → Hp → Prop, (∃ m, W 0 m σ H) ∧ ∀ i m σ H, W i m σ H →
      ((Its x).stop i H ∧ D.nx σ H) ∨ ((Its x).go i H ∧ ∃ N : L2.St → Hp → Prop, (∀ σ' H', N σ' H' → ∃ m', m' < m ∧ W (i + 1) m' σ' H') ∧ ∀ y H', (Its x).yld i H y H' → g y σ H' fun σ2 H2 => tb { D with nx := N, ct := N, bk := D.nx } σ2 H2) := by
  have en : x.cps.toList.length = x.cps.size := Array.length_toList
  refine ⟨fun i m σ H => m = x.cps.size - i ∧ i ≤ x.cps.size ∧ Pv i σ H, ⟨_, rfl, Nat.zero_le _, h0⟩, ?_⟩
  rintro i m σ H ⟨rfl, hi, p⟩
  by_cases hlt : i < x.cps.size
  · refine .inr ⟨hlt, Pv (i + 1), fun σ' H' p' => ⟨x.cps.size - (i + 1), by omega, rfl, hlt, p'⟩, fun y H' hy => ?_⟩
    obtain ⟨e, c, hc, ey⟩ := hy
    subst e ey
    exact hs i c σ _ (by rw [Array.getElem?_toList]; exact hc) p
  · have e : i = x.cps.size := by omega
    refine .inl ⟨by show x.cps.size ≤ i; omega, hd σ H ?_⟩
    rw [en, ← e]
    exact p
/-- what stands elsewhere than at p is as it was -/
def Kp (p : Addr) (H H' : Hp) : Prop := ∀ b o, b ≠ p → H b = some o → H' b = some o
theorem Kp.refl {p : Addr} {H : Hp} : Kp p H H := fun _ _ _ h => h
theorem Kp.trans {p : Addr} {H H1 H2 : Hp} (a : Kp p H H1) (b : Kp p H1 H2) : Kp p H H2 := fun c o n h => b c o n (a c o n h)
theorem Kp.put {p : Addr} {H H1 : Hp} {o : HO} (a : Kp p H H1) : Kp p H (upd H1 p o) := fun c u n h => by
  rw [upd_ne n]
  exact a c u n h
theorem Kp.new {p q : Addr} {H H1 : Hp} {o : HO} (a : Kp p H H1) (hq : H1 q = none) : Kp p H (upd H1 q o) := fun c u n h => by
  rw [upd_ne (ne_of_none (a c u n h) hq)]
  exact a c u n h
theorem Kp.seq {p : Addr} {K : PySem.W.Frag} {H H' : Hp} {a : Addr} {xs : List V} (e : Kp p H H') (n : a ≠ p) (h : SqL K H a xs) : SqL K H' a xs := by
  rcases h with (h | ⟨o, h⟩) | h
  · exact .inl (.inl (e _ _ n h))
  · exact .inl (.inr ⟨o, e _ _ n h⟩)
  · exact .inr h
theorem Kp.of_same {p : Addr} {H H' : Hp} (h : Same H H') : Kp p H H' := fun b o _ e => h b o e
/-- a pool of draws stands at p -/
def Pool (H : Hp) (p : Addr) : Prop := ∃ c s : Int, H p = some (.lst [.int c, .int s]) ∧ 0 ≤ s ∧ s < 2147483647
theorem Pool.new {H : Hp} {p q : Addr} {o : HO} (h : Pool H p) (hq : H q = none) : Pool (upd H q o) p := by
  obtain ⟨c, s, e, r⟩ := h
  exact ⟨c, s, by rw [upd_ne (ne_of_none e hq)]; exact e, r⟩
theorem Pool.same {H H' : Hp} {p : Addr} (h : Pool H p) (e : Same H H') : Pool H' p := by
  obtain ⟨c, s, z, r⟩ := h
  exact ⟨c, s, e _ _ z, r⟩
theorem Pool.put {H : Hp} {p : Addr} {c s : Int} (h0 : 0 ≤ s) (h1 : s < 2147483647) : Pool (upd H p (.lst [.int c, .int s])) p := ⟨c, s, upd_same, h0, h1⟩
theorem Pool.putM {H : Hp} {p : Addr} {c s : Int} : Pool (upd H p (.lst [.int c, .int (s % 2147483647)])) p := Pool.put (Int.emod_nonneg _ (by decide)) (Int.emod_lt_of_pos _ (by decide))
/-- behind draws: the pool at p, all else as it was -/
def Dr (p : Addr) (H H' : Hp) : Prop := Kp p H H' ∧ Pool H' p
theorem Dr.refl {p : Addr} {H : Hp} (h : Pool H p) : Dr p H H := ⟨Kp.refl, h⟩
theorem Dr.trans {p : Addr} {H H1 H2 : Hp} (a : Dr p H H1) (b : Dr p H1 H2) : Dr p H H2 := ⟨a.1.trans b.1, b.2⟩
theorem Dr.new {p q : Addr} {H H1 : Hp} {o : HO} (a : Dr p H H1) (hq : H1 q = none) : Dr p H (upd H1 q o) := ⟨a.1.new hq, a.2.new hq⟩
theorem Dr.same {p : Addr} {H H1 H2 : Hp} (a : Dr p H H1) (s : Same H1 H2) : Dr p H H2 := ⟨a.1.trans (Kp.of_same s), a.2.same s⟩
theorem Dr.free {p q : Addr} {H H1 : Hp} (a : Dr p H H1) (h : H1 q = none) : q ≠ p ∧ H q = none := by
  obtain ⟨k, c, s, e, _⟩ := a
  have n : q ≠ p := (ne_of_none e h).symm
  refine ⟨n, ?_⟩
  cases z : H q with
  | none => rfl
  | some o =>
    rw [k _ _ n z] at h
    cases h
/-- what H doesn't know may change -/
theorem Dr.mut {p q : Addr} {H H1 : Hp} {o : HO} (a : Dr p H H1) (n : q ≠ p ∧ H q = none) : Dr p H (upd H1 q o) := by
  obtain ⟨k, c, s, e, r⟩ := a
  refine ⟨fun b u nb hb => ?_, c, s, ?_, r⟩
  · rw [upd_ne (ne_of_none hb n.2)]
    exact k b u nb hb
  · rw [upd_ne n.1.symm]
    exact e
/-- the promise of a draw -/
def spDraw : Sp := fun vs H Q _ => ∃ (p : Addr) (m : Int), vs = [.ref p, .int m] ∧ Pool H p ∧ 0 < m ∧ m < 2 ^ 100 ∧ ∀ (d : Int) (H' : Hp), 0 ≤ d → d < m → Dr p H H' → Q (.int d) H'
def spPool (K : PySem.W.Frag) : Sp := fun vs H Q _ => ∃ (a : Addr) (ns : List Int) (k : Nat), vs = [.ref a, .int (k : Int)] ∧ SqL K H a (ns.map V.int) ∧ k < 64 ∧
  ∀ (p : Addr) (H' : Hp), H p = none → Same H H' → Pool H' p → Q (.ref p) H'
theorem atI_map {ns : List Int} {k : Nat} (h : k < ns.length) : atI (ns.map V.int) (k : Int) = some (.int (ns.getD k 0)) := by
  refine atI_nat ?_
  rw [List.getElem?_map, List.getElem?_eq_getElem h, List.getD_eq_getElem?_getD, List.getElem?_eq_getElem h]
  rfl

def top (i : Nat) : Stmt := PySem.Challenge.pw_twodivisions_k52_check_numbers_of_texts.main.body.getD i (.Pass ⟨0, 0, 0, 0⟩)
abbrev s_check_number : Stmt := (top 1)
abbrev n_check_number : List Str := ["text", "found", "character"]
theorem sc_check_number : FnScope n_check_number ["text"] (defScope s_check_number) := ⟨rfl, rfl, rfl, by decide +kernel, rfl, by decide +kernel, by decide +kernel⟩
abbrev s_l_pool : Stmt := (top 3)
abbrev n_l_pool : List Str := ["_law_script", "_law_k", "_law_cell", "_law_seed"]
theorem sc_l_pool : FnScope n_l_pool ["_law_script", "_law_k"] (defScope s_l_pool) := ⟨rfl, rfl, rfl, by decide +kernel, rfl, by decide +kernel, by decide +kernel⟩
abbrev s_l_draw : Stmt := (top 4)
abbrev n_l_draw : List Str := ["_law_pool_here", "_law_many", "_law_digit"]
theorem sc_l_draw : FnScope n_l_draw ["_law_pool_here", "_law_many"] (defScope s_l_draw) := ⟨rfl, rfl, rfl, by decide +kernel, rfl, by decide +kernel, by decide +kernel⟩
abbrev s_l_character : Stmt := (top 6)
abbrev n_l_character : List Str := ["_law_pool_here", "_law_signs"]
theorem sc_l_character : FnScope n_l_character ["_law_pool_here"] (defScope s_l_character) := ⟨rfl, rfl, rfl, by decide +kernel, rfl, by decide +kernel, by decide +kernel⟩
abbrev s_l_text : Stmt := (top 7)
abbrev n_l_text : List Str := ["_law_pool_here", "_law_many", "_law_turn"]
theorem sc_l_text : FnScope n_l_text ["_law_pool_here"] (defScope s_l_text) := ⟨rfl, rfl, rfl, by decide +kernel, rfl, by decide +kernel, by decide +kernel⟩
abbrev s_l_check : Stmt := (top 8)
abbrev n_l_check : List Str := ["_law_begin", "_law_text_here", "_law_found", "_law_character_here"]
theorem sc_l_check : FnScope n_l_check ["_law_begin", "_law_text_here"] (defScope s_l_check) := ⟨rfl, rfl, rfl, by decide +kernel, rfl, by decide +kernel, by decide +kernel⟩
abbrev s_law : Stmt := (top 9)
abbrev n_law : List Str := ["_law_script", "_law_k", "_law_pool_here", "_law_one", "_law_other", "_law_value", "_law_at", "_law_new", "_law_bent"]
theorem sc_law : FnScope n_law ["_law_script"] (defScope s_law) := ⟨rfl, rfl, rfl, by decide +kernel, rfl, by decide +kernel, by decide +kernel⟩
structure Is (K : PySem.W.Frag) (mg : Str → Option Value) (x : Str) (st : Stmt) (ps : List Str) (f : Addr) (fd : FuncData) : Prop where
  F : Fun K x x st f fd
  mgf : mg x = some (.ref f)
  b : Binds K fd ps []
structure Txt (K : PySem.W.Frag) (mg : Str → Option Value) where
  a_check_number : Addr
  d_check_number : FuncData
  check_number : Is K mg "check_number" s_check_number ["text"] a_check_number d_check_number
  a_l_pool : Addr
  d_l_pool : FuncData
  l_pool : Is K mg "_law_pool" s_l_pool ["_law_script", "_law_k"] a_l_pool d_l_pool
  a_l_draw : Addr
  d_l_draw : FuncData
  l_draw : Is K mg "_law_draw" s_l_draw ["_law_pool_here", "_law_many"] a_l_draw d_l_draw
  a_l_character : Addr
  d_l_character : FuncData
  l_character : Is K mg "_law_character" s_l_character ["_law_pool_here"] a_l_character d_l_character
  a_l_text : Addr
  d_l_text : FuncData
  l_text : Is K mg "_law_text" s_l_text ["_law_pool_here"] a_l_text d_l_text
  a_l_check : Addr
  d_l_check : FuncData
  l_check : Is K mg "_law_check" s_l_check ["_law_begin", "_law_text_here"] a_l_check d_l_check
  g_len : mg "len" = none
  g_int : mg "int" = none
  g_range : mg "range" = none
  g_min : mg "min" = none
  g_max : mg "max" = none
  g_ord : mg "ord" = none
  g_isinstance : mg "isinstance" = none
  g_bool : mg "bool" = none
/-! ### the mathematics -/
def stepC (f : Int) (c : Nat) : Int := (f * 257 + (c : Int)) % 65521
def chk (f : Int) (l : List Nat) : Int := l.foldl stepC f
theorem chk_append (f : Int) (a b : List Nat) : chk f (a ++ b) = chk (chk f a) b := List.foldl_append
theorem stepC_lo (f : Int) (c : Nat) : 0 ≤ stepC f c ∧ stepC f c < 65521 := ⟨Int.emod_nonneg _ (by decide), Int.emod_lt_of_pos _ (by decide)⟩
theorem chk_lo : ∀ (l : List Nat) {f : Int}, 0 ≤ f ∧ f < 65521 → 0 ≤ chk f l ∧ chk f l < 65521
  | [], _, h => h
  | c :: r, f, _ => chk_lo r (f := stepC f c) (stepC_lo f c)
theorem stepC_inj {f g : Int} {c : Nat} (hf : 0 ≤ f ∧ f < 65521) (hg : 0 ≤ g ∧ g < 65521) (h : stepC f c = stepC g c) : f = g := by
  unfold stepC at h
  omega
theorem stepC_injC {f : Int} {c d : Nat} (hc : c < 128) (hd : d < 128) (h : stepC f c = stepC f d) : c = d := by
  unfold stepC at h
  omega
theorem chk_inj : ∀ (l : List Nat) {f g : Int}, 0 ≤ f ∧ f < 65521 → 0 ≤ g ∧ g < 65521 → chk f l = chk g l → f = g
  | [], _, _, _, _, h => h
  | c :: r, f, g, hf, hg, h => stepC_inj hf hg (chk_inj r (f := stepC f c) (g := stepC g c) (stepC_lo f c) (stepC_lo g c) h)
theorem chk_put {a b : List Nat} {c d : Nat} (hc : c < 128) (hd : d < 128) (h : chk 0 (a ++ c :: b) = chk 0 (a ++ d :: b)) : c = d := by
  rw [chk_append, chk_append] at h
  have h1 : chk (stepC (chk 0 a) c) b = chk (stepC (chk 0 a) d) b := h
  exact stepC_injC hc hd (chk_inj b (stepC_lo _ _) (stepC_lo _ _) h1)
def codes (x : Str) : List Nat := x.cps.toList
theorem codes_append (x y : Str) : codes (x ++ y) = codes x ++ codes y := Array.toList_append
theorem codes_inj {x y : Str} (h : codes x = codes y) : x = y := by
  cases x
  cases y
  have h1 := Array.toList_inj.mp h
  simp only at h1
  rw [h1]
theorem codes_len (x : Str) : (codes x).length = x.length := Array.length_toList
theorem pick_code {z : Str} {d : Int} {Q : VK} {H : Hp} (ha : (z.cps.toList.all fun c => decide (c < 128)) = true) (hl : z.length ≤ sizeLine) (d0 : 0 ≤ d) (d1 : d < (z.length : Int)) (q : ∀ c : Nat, c < 128 → Q (.str ⟨#[c]⟩) H) : rIxS (.str z) (.int d) H Q := by
  have hd : d.toNat < z.cps.toList.length := by
    have := codes_len z
    unfold codes at this
    omega
  have e : ((d.toNat : Nat) : Int) = d := Int.toNat_of_nonneg d0
  refine ⟨z, d, z.cps.toList[d.toNat], rfl, rfl, hl, ?_, q _ ?_⟩
  · have h := atI_nat (List.getElem?_eq_getElem hd)
    rw [e] at h
    exact h
  · exact of_decide_eq_true (List.all_eq_true.mp ha _ (List.getElem_mem hd))
def Small (x : Str) : Prop := ∀ c ∈ codes x, c < 128
theorem small_one {c : Nat} (h : c < 128) : Small ⟨#[c]⟩ := fun d hd => by
  have e : d = c := by simpa [codes] using hd
  rw [e]
  exact h
theorem small_add {x y : Str} (hx : Small x) (hy : Small y) : Small (x ++ y) := fun c hc => by
  rw [codes_append] at hc
  exact (List.mem_append.mp hc).elim (hx c) (hy c)
theorem codes_mul {c : Nat} {n : Int} : ∃ k : Nat, k ≤ n.toNat ∧ codes (Txt.mul ⟨#[c]⟩ n) = List.replicate k c := by
  have fold : ∀ (k : Nat) (a : Array Nat), ((List.replicate k #[c]).foldl (· ++ ·) a).toList = a.toList ++ List.replicate k c := by
    intro k
    induction k with
    | zero => intro a; simp
    | succ k ih =>
      intro a
      rw [List.replicate_succ, List.foldl_cons, ih, Array.toList_append, List.append_assoc, List.replicate_succ]
      rfl
  unfold Txt.mul codes
  split
  · exact ⟨0, Nat.zero_le _, rfl⟩
  · split
    · exact ⟨1, by omega, rfl⟩
    · refine ⟨n.toNat, Nat.le_refl _, ?_⟩
      have h := fold n.toNat #[]
      simpa using h
theorem join_small : ∀ ys : List Str, (∀ y ∈ ys, Small y ∧ y.length = 1) → Small (Txt.join (Str.ofString "") ys) ∧ (Txt.join (Str.ofString "") ys).length = ys.length := by
  intro ys h
  have e0 : tl (Str.ofString "") = [] := by decide +kernel
  have e1 : codes (Txt.join (Str.ofString "") ys) = joinL [] (ys.map tl) := by
    rw [join_eq]
    have := tl_join (Str.ofString "") ys
    rw [e0] at this
    exact this
  have e2 : ∀ zs : List Str, (∀ y ∈ zs, Small y ∧ y.length = 1) → (∀ c ∈ joinL [] (zs.map tl), c < 128) ∧ (joinL [] (zs.map tl)).length = zs.length := by
    intro zs
    induction zs with
    | nil => intro _; exact ⟨fun c hc => (nomatch hc), rfl⟩
    | cons a r ih =>
      intro hz
      have ha := hz a List.mem_cons_self
      have hl : (tl a).length = 1 := by
        rw [← ha.2]
        exact codes_len a
      have hs : ∀ c ∈ tl a, c < 128 := ha.1
      obtain ⟨i1, i2⟩ := ih fun y hy => hz y (List.mem_cons_of_mem _ hy)
      cases r with
      | nil => exact ⟨hs, hl⟩
      | cons b r =>
        have ej : joinL [] ((a :: b :: r).map tl) = tl a ++ ([] ++ joinL [] ((b :: r).map tl)) := rfl
        rw [ej, List.nil_append]
        refine ⟨fun c hc => (List.mem_append.mp hc).elim (hs c) (i1 c), ?_⟩
        rw [List.length_append, hl, i2, List.length_cons (a := a)]
        omega
  obtain ⟨h1, h2⟩ := e2 ys h
  refine ⟨fun c hc => h1 c (e1 ▸ hc), ?_⟩
  rw [← codes_len, e1, h2]
theorem bent_codes {x : Str} {c : Nat} {d : Int} (d0 : 0 ≤ d) (d1 : d < (x.length : Int)) : ∃ (A B : List Nat) (z : Nat), z ∈ codes x ∧ codes x = A ++ z :: B ∧
    codes (cutS x none (some d) ++ ⟨#[c]⟩ ++ cutS x (some (d + 1)) none) = A ++ c :: B := by
  have hl := codes_len x
  have hd : d.toNat < (codes x).length := by omega
  refine ⟨(codes x).take d.toNat, (codes x).drop (d.toNat + 1), (codes x)[d.toNat], List.getElem_mem hd, ?_, ?_⟩
  · rw [List.getElem_cons_drop, List.take_append_drop]
  · have e1 : codes (cutS x none (some d)) = (codes x).take d.toNat := by
      show ((codes x).drop 0).take ((if d < 0 then (d + (x.length : Int)).toNat else min d.toNat x.length) - 0) = _
      rw [if_neg (by omega), List.drop_zero, Nat.sub_zero, Nat.min_eq_left (by omega)]
    have e2 : codes (cutS x (some (d + 1)) none) = (codes x).drop (d.toNat + 1) := by
      show ((codes x).drop (if d + 1 < 0 then (d + 1 + (x.length : Int)).toNat else min (d + 1).toNat x.length)).take (x.length - (if d + 1 < 0 then (d + 1 + (x.length : Int)).toNat else min (d + 1).toNat x.length)) = _
      have e : (if d + 1 < 0 then (d + 1 + (x.length : Int)).toNat else min (d + 1).toNat x.length) = d.toNat + 1 := by
        rw [if_neg (by omega)]
        omega
      rw [e]
      exact List.take_of_length_le (by rw [List.length_drop]; omega)
    rw [codes_append, codes_append, e1, e2, List.append_assoc]
    rfl
theorem bl_iff {i j : Int} {a b : Str} (h : (i = j) ↔ a = b) : V.bl (decide (V.int i = V.int j)) = V.bl (decide (V.str a = V.str b)) := by
  congr 1
  refine decide_eq_decide.mpr ⟨fun e => ?_, fun e => ?_⟩
  · rw [h.mp (V.int.inj e)]
  · rw [h.mpr (V.str.inj e)]
theorem chk_take {l : List Nat} {i : Nat} {c : Nat} (f : Int) (h : l[i]? = some c) : chk f (l.take (i + 1)) = stepC (chk f (l.take i)) c := by
  have e : l.take (i + 1) = l.take i ++ [c] := by
    rw [List.take_add_one, h]
    rfl
  rw [e, chk_append]
  rfl
section
variable {P : Program} {w : World} {K : PySem.W.Frag} {mg : Str → Option Value} {base : Heap}
theorem ok_l_pool (T : Txt K mg) : FnOk P w K mg base CX0 1 T.a_l_pool T.d_l_pool ["_law_script", "_law_k"] (spPool K) := by
  refine T.l_pool.F.ok sc_l_pool (fun vs H Q E h => ?_) (fun cdv A outer s H vs Q E hr h => ?_)
  · obtain ⟨a, ns, k, rfl, _⟩ := h
    rfl
  · obtain ⟨a, ns, k, rfl, hS, hk, q⟩ := h
    refine ⟨_, (pss_cons (ps_set (i := 2) sc_l_pool.nd rfl (Or.inl rfl) pe_int)
      (pss_cons (ps_if (pt_cmpR op_lt (pv 1) (pe_callB call_len_seq (by rfl) T.g_len (by decide +kernel) (pa_cons (pv 0) pa_nil)) (nomark _)) (pss_one (ps_set (i := 2) sc_l_pool.nd rfl (Or.inl rfl) (pe_ix ix_list (pv 0) (pv 1) (fun _ _ => rfl)))) pss_nil)
      (pss_cons (ps_set (i := 3) sc_l_pool.nd rfl (Or.inl rfl) (pe_op op_mod (pe_op op_pow (pe_op op_add (pe_op op_add (pe_op op_mod (pe_callTy call_int1 (by rfl) T.g_int (by decide +kernel) (pa_cons (pv 2) pa_nil)) pe_int) (pe_op op_mul (pe_op op_mul pe_int (pv 1)) (pv 1))) pe_int) pe_int) pe_int))
      (pss_cons (ps_if (pt_cmpR op_lt (pv 2) (pe_op op_pow pe_int pe_int) (nomark _)) (pss_one (ps_set (i := 2) sc_l_pool.nd rfl (Or.inl rfl) pe_int)) pss_nil)
      (pss_one (ps_ret (pe_lst (pa_cons (pv 2) (pa_cons (pv 3) pa_nil))))))))), ?_⟩
    refine ⟨_, rfl, _, rfl, a, _, rfl, .inl hS, _, _, rfl, rfl, _, rfl, ?_⟩
    rw [List.length_map]
    refine ite2 (fun hc => ?_) (fun hc => ?_)
    · have hlt : k < ns.length := by
        have := of_decide_eq_true hc
        omega
      refine ⟨_, rfl, _, rfl, a, _, _, _, rfl, rfl, hS, atI_map hlt, ?_⟩
      generalize ns.getD k 0 = c
      refine ⟨_, rfl, .inl ⟨_, rfl, _, _, rfl, rfl, (by show (0 : Int) < 2147483629; decide), ?_⟩⟩
      refine ⟨_, rfl, _, _, rfl, rfl, .inl ⟨by decide, by decide⟩, _, rfl, _, _, rfl, rfl, .inr ⟨by omega, by omega⟩, _, _, rfl, rfl, _, _, rfl, rfl, ?_⟩
      have hc0 : 0 ≤ c % 2147483629 := Int.emod_nonneg _ (by decide)
      have hc1 : c % 2147483629 < 2147483629 := Int.emod_lt_of_pos _ (by decide)
      have hk2 : 7919 * (k : Int) * (k : Int) ≤ 7919 * 64 * 64 := Int.mul_le_mul (by omega) (by omega) (by omega) (by omega)
      have hk3 : 0 ≤ 7919 * (k : Int) * (k : Int) := Int.mul_nonneg (by omega) (by omega)
      refine ⟨_, _, rfl, rfl, ⟨by decide, by decide, by omega⟩, _, _, rfl, rfl, (by show (0 : Int) < 2147483647; decide), ?_⟩
      refine ⟨_, rfl, _, _, rfl, rfl, ⟨by decide, by decide, by decide⟩, _, _, rfl, rfl, _, rfl, ?_⟩
      refine ite2 (fun _ => ?_) (fun _ => ?_)
      · refine ⟨_, rfl, _, rfl, (by show 2 ≤ sizeLine; decide), fun p hp => ?_⟩
        exact q p _ hp (fun b o e => by rw [upd_ne (ne_of_none e hp)]; exact e) Pool.putM
      · refine ⟨_, rfl, _, rfl, (by show 2 ≤ sizeLine; decide), fun p hp => ?_⟩
        exact q p _ hp (fun b o e => by rw [upd_ne (ne_of_none e hp)]; exact e) Pool.putM
    · refine ⟨_, rfl, .inl ⟨_, rfl, _, _, rfl, rfl, (by show (0 : Int) < 2147483629; decide), ?_⟩⟩
      refine ⟨_, rfl, _, _, rfl, rfl, .inl ⟨by decide, by decide⟩, _, rfl, _, _, rfl, rfl, .inr ⟨by omega, by omega⟩, _, _, rfl, rfl, _, _, rfl, rfl, ?_⟩
      have hk2 : 7919 * (k : Int) * (k : Int) ≤ 7919 * 64 * 64 := Int.mul_le_mul (by omega) (by omega) (by omega) (by omega)
      have hk3 : 0 ≤ 7919 * (k : Int) * (k : Int) := Int.mul_nonneg (by omega) (by omega)
      refine ⟨_, _, rfl, rfl, ⟨by decide, by decide, by omega⟩, _, _, rfl, rfl, (by show (0 : Int) < 2147483647; decide), ?_⟩
      refine ⟨_, rfl, _, _, rfl, rfl, ⟨by decide, by decide, by decide⟩, _, _, rfl, rfl, _, rfl, ?_⟩
      refine ite2 (fun _ => ?_) (fun _ => ?_)
      · refine ⟨_, rfl, _, rfl, (by show 2 ≤ sizeLine; decide), fun p hp => ?_⟩
        exact q p _ hp (fun b o e => by rw [upd_ne (ne_of_none e hp)]; exact e) Pool.putM
      · refine ⟨_, rfl, _, rfl, (by show 2 ≤ sizeLine; decide), fun p hp => ?_⟩
        exact q p _ hp (fun b o e => by rw [upd_ne (ne_of_none e hp)]; exact e) Pool.putM
theorem ok_l_draw (T : Txt K mg) : FnOk P w K mg base CX0 1 T.a_l_draw T.d_l_draw ["_law_pool_here", "_law_many"] spDraw := by
  refine T.l_draw.F.ok sc_l_draw (fun vs H Q E h => ?_) (fun cdv A outer s H vs Q E hr h => ?_)
  · obtain ⟨p, m, rfl, _⟩ := h
    rfl
  · obtain ⟨p, m, rfl, ⟨c, s0, hp, h0, h1⟩, m0, m1, q⟩ := h
    refine ⟨_, (pss_cons (ps_if (pt_cmpR op_gt (pe_ix ix_list (pv 0) pe_int (fun _ _ => rfl)) pe_int (nomark _)) (pss_cons (ps_set (i := 2) sc_l_draw.nd rfl (Or.inl rfl) (pe_op op_mod (pe_callTy call_int1 (by rfl) T.g_int (by decide +kernel) (pa_cons (pe_ix ix_list (pv 0) pe_int (fun _ _ => rfl)) pa_nil)) (pv 1)))
      (pss_cons (ps_asg (pe_op op_fdivW (pe_ix ix_list (pv 0) pe_int (fun _ _ => rfl)) (pv 1)) (pg_sub (pv 0) pe_int set_list))
      (pss_one (ps_ret (pv 2))))) pss_nil)
      (pss_cons (ps_asg (pe_op op_mod (pe_callTy call_int1 (by rfl) T.g_int (by decide +kernel) (pa_cons (pe_op op_add (pe_op op_mul (pe_ix ix_list (pv 0) pe_int (fun _ _ => rfl)) pe_int) pe_int) pa_nil)) pe_int) (pg_sub (pv 0) pe_int set_list))
      (pss_one (ps_ret (pe_op op_mod (pe_op op_fdiv (pe_op op_mod (pe_callTy call_int1 (by rfl) T.g_int (by decide +kernel) (pa_cons (pe_op op_mul (pe_ix ix_list (pv 0) pe_int (fun _ _ => rfl)) (pe_ix ix_list (pv 0) pe_int (fun _ _ => rfl))) pa_nil)) pe_int) pe_int) (pv 1)))))), ?_⟩
    have hm : CDivW c m := by
      refine wide_div m0 (b := 100) ?_ (by decide) (by decide)
      omega
    refine ⟨_, rfl, p, _, _, _, rfl, rfl, SqL.of hp, rfl, _, _, rfl, rfl, _, rfl, ?_⟩
    refine ite2 (fun _ => ?_) (fun _ => ?_)
    · refine ⟨_, rfl, p, _, _, _, rfl, rfl, SqL.of hp, rfl, .inl ⟨_, rfl, _, rfl, _, _, rfl, rfl, m0, ?_⟩⟩
      refine ⟨_, rfl, p, _, _, _, rfl, rfl, SqL.of hp, rfl, _, rfl, _, _, rfl, rfl, hm, ?_⟩
      refine ⟨_, rfl, p, _, _, 0, rfl, rfl, hp, rfl, ?_⟩
      refine ⟨_, rfl, ?_⟩
      exact q _ _ (Int.emod_nonneg _ (by omega)) (Int.emod_lt_of_pos _ m0) ⟨Kp.put Kp.refl, Pool.put h0 h1⟩
    · refine ⟨_, rfl, p, _, _, _, rfl, rfl, SqL.of hp, rfl, _, _, rfl, rfl, .inr ⟨by decide, by decide⟩, _, _, rfl, rfl, .inl ⟨_, rfl, _, _, rfl, rfl, (by show (0 : Int) < 2147483647; decide), ?_⟩⟩
      refine ⟨_, rfl, p, _, _, 1, rfl, rfl, hp, rfl, ?_⟩
      refine ⟨_, rfl, p, _, _, _, rfl, rfl, SqL.of upd_same, rfl, _, rfl, p, _, _, _, rfl, rfl, SqL.of upd_same, rfl, _, _, rfl, rfl, .inl ⟨by omega, by omega⟩, .inl ⟨_, rfl, _, _, rfl, rfl, (by show (0 : Int) < 2147483629; decide), ?_⟩⟩
      refine ⟨_, _, rfl, rfl, ⟨by decide, by decide⟩, _, rfl, _, _, rfl, rfl, m0, ?_⟩
      exact q _ _ (Int.emod_nonneg _ (by omega)) (Int.emod_lt_of_pos _ m0) ⟨Kp.put Kp.refl, Pool.putM⟩

def spCheck : Sp := fun vs H Q _ => ∃ x : Str, vs = [.str x] ∧ Q (.int (chk 0 (codes x))) H
theorem ok_check_number (T : Txt K mg) : FnOk P w K mg base CX0 1 T.a_check_number T.d_check_number ["text"] spCheck := by
  refine T.check_number.F.ok sc_check_number (fun vs H Q E h => ?_) (fun cdv A outer s H vs Q E hr h => ?_)
  · obtain ⟨x, rfl, _⟩ := h
    rfl
  · obtain ⟨x, rfl, q⟩ := h
    refine ⟨_, (pss_cons (ps_set (i := 1) sc_check_number.nd rfl (Or.inl rfl) pe_int)
      (pss_cons (ps_for PassesOwn.never (by rfl) (pi_str (pv 0)) (pg_name (i := 2) sc_check_number.nd rfl (Or.inl rfl))
      (pss_one (ps_set (i := 1) sc_check_number.nd rfl (Or.inl rfl) (pe_op op_mod (pe_op op_add (pe_op op_mul (pv 1) pe_int) (pe_callB call_ord (by rfl) T.g_ord (by decide +kernel) (pa_cons (pv 2) pa_nil))) pe_int))))
      (pss_one (ps_ret (pv 1))))), ?_⟩
    refine ⟨_, rfl, x, rfl, for_its (x := x) (fun i σ H' => H' = H ∧ ∃ v, σ = [some (.str x), some (.int (chk 0 ((codes x).take i))), v]) ⟨rfl, none, rfl⟩ ?_ ?_⟩
    · rintro i c σ H' hc ⟨rfl, v, rfl⟩
      refine ⟨_, rfl, _, _, rfl, rfl, .inr ⟨by decide, by decide⟩, _, rfl, _, rfl, rfl, _, _, rfl, rfl, _, _, rfl, rfl, (by show (0 : Int) < 65521; decide), ?_⟩
      refine ⟨rfl, some (.str ⟨#[c]⟩), ?_⟩
      have e := chk_take (l := codes x) 0 hc
      rw [e]
      rfl
    · rintro σ H' ⟨rfl, v, rfl⟩
      refine ⟨_, rfl, ?_⟩
      have e : (codes x).take x.cps.toList.length = codes x := List.take_length
      rw [e]
      exact q
def spCheckL : Sp := fun vs H Q _ => ∃ (f : Int) (x : Str), vs = [.int f, .str x] ∧ Q (.int (chk f (codes x))) H
theorem ok_l_check (T : Txt K mg) : FnOk P w K mg base CX0 1 T.a_l_check T.d_l_check ["_law_begin", "_law_text_here"] spCheckL := by
  refine T.l_check.F.ok sc_l_check (fun vs H Q E h => ?_) (fun cdv A outer s H vs Q E hr h => ?_)
  · obtain ⟨f, x, rfl, _⟩ := h
    rfl
  · obtain ⟨f, x, rfl, q⟩ := h
    refine ⟨_, (pss_cons (ps_set (i := 2) sc_l_check.nd rfl (Or.inl rfl) (pv 0))
      (pss_cons (ps_for PassesOwn.never (by rfl) (pi_str (pv 1)) (pg_name (i := 3) sc_l_check.nd rfl (Or.inl rfl))
      (pss_one (ps_set (i := 2) sc_l_check.nd rfl (Or.inl rfl) (pe_op op_mod (pe_callTy call_int1 (by rfl) T.g_int (by decide +kernel) (pa_cons (pe_op op_add (pe_op op_mul (pv 2) pe_int) (pe_callB call_ord (by rfl) T.g_ord (by decide +kernel) (pa_cons (pv 3) pa_nil))) pa_nil)) pe_int))))
      (pss_one (ps_ret (pv 2))))), ?_⟩
    refine ⟨_, rfl, _, rfl, x, rfl, for_its (x := x) (fun i σ H' => H' = H ∧ ∃ v, σ = [some (.int f), some (.str x), some (.int (chk f ((codes x).take i))), v]) ⟨rfl, none, rfl⟩ ?_ ?_⟩
    · rintro i c σ H' hc ⟨rfl, v, rfl⟩
      refine ⟨_, rfl, _, _, rfl, rfl, .inr ⟨by decide, by decide⟩, _, rfl, _, rfl, rfl, _, _, rfl, rfl, .inl ⟨_, rfl, _, _, rfl, rfl, (by show (0 : Int) < 65521; decide), ?_⟩⟩
      refine ⟨rfl, some (.str ⟨#[c]⟩), ?_⟩
      have e := chk_take (l := codes x) f hc
      rw [e]
      rfl
    · rintro σ H' ⟨rfl, v, rfl⟩
      refine ⟨_, rfl, ?_⟩
      have e : (codes x).take x.cps.toList.length = codes x := List.take_length
      rw [e]
      exact q
/-- one sign -/
def spChar : Sp := fun vs H Q _ => ∃ p : Addr, vs = [.ref p] ∧ Pool H p ∧ ∀ (c : Nat) (H' : Hp), c < 128 → Dr p H H' → Q (.str ⟨#[c]⟩) H'
theorem ok_l_character (T : Txt K mg) : FnOk P w K mg base CX0 2 T.a_l_character T.d_l_character ["_law_pool_here"] spChar := by
  refine T.l_character.F.ok sc_l_character (fun vs H Q E h => ?_) (fun cdv A outer s H vs Q E hr h => ?_)
  · obtain ⟨p, rfl, _⟩ := h
    rfl
  · obtain ⟨p, rfl, hp, q⟩ := h
    refine ⟨_, (pss_cons (ps_set (i := 1) sc_l_character.nd rfl (Or.inl rfl) pe_str)
      (pss_one (ps_ret (pe_ix ix_str (pv 1) (pe_call (ok_l_draw T) (hr.mono (by decide)) (by rfl) T.l_draw.mgf T.l_draw.F.kp T.l_draw.b .nil pass0 (pa_cons (pv 0) (pa_cons (pe_callB call_len_str (by rfl) T.g_len (by decide +kernel) (pa_cons (pv 1) pa_nil)) pa_nil))) (fun _ _ => rfl))))), ?_⟩
    refine ⟨_, rfl, _, rfl, _, rfl, _, rfl, (by decide +kernel), p, _, rfl, hp, (by decide +kernel), (by decide +kernel), fun d H' d0 d1 D => ?_⟩
    exact pick_code (by decide +kernel) (by decide +kernel) d0 d1 fun c hc => q c H' hc D
def spText : Sp := fun vs H Q _ => ∃ p : Addr, vs = [.ref p] ∧ Pool H p ∧ ∀ (x : Str) (H' : Hp), x.length ≤ 40 → Small x → Dr p H H' → Q (.str x) H'
theorem ok_l_text (T : Txt K mg) : FnOk P w K mg base CX0 3 T.a_l_text T.d_l_text ["_law_pool_here"] spText := by
  refine T.l_text.F.ok sc_l_text (fun vs H Q E h => ?_) (fun cdv A outer s H vs Q E hr h => ?_)
  · obtain ⟨p, rfl, _⟩ := h
    rfl
  · obtain ⟨p, rfl, hp, q⟩ := h
    refine ⟨_, (pss_cons (ps_set (i := 1) sc_l_text.nd rfl (Or.inl rfl) (pe_call (ok_l_draw T) (hr.mono (by decide)) (by rfl) T.l_draw.mgf T.l_draw.F.kp T.l_draw.b .nil pass0 (pa_cons (pv 0) (pa_cons pe_int pa_nil))))
      (pss_cons (ps_if (pt_cmpR op_eq (pe_call (ok_l_draw T) (hr.mono (by decide)) (by rfl) T.l_draw.mgf T.l_draw.F.kp T.l_draw.b .nil pass0 (pa_cons (pv 0) (pa_cons pe_int pa_nil))) pe_int (nomark _)) (pss_one (ps_ret (pe_op op_repS (pe_call (ok_l_character T) (hr.mono (by decide)) (by rfl) T.l_character.mgf T.l_character.F.kp T.l_character.b .nil pass0 (pa_cons (pv 0) pa_nil)) (pv 1)))) pss_nil)
      (pss_one (ps_ret (pe_join pe_str (pe_lc (own := [("_law_turn", 2)]) (by rfl) sc_l_text.nd (pi_range1 (by rfl) T.g_range (pa_cons (pv 1) pa_nil)) (blkOk_by (own := [("_law_turn", 2)]) (N := n_l_text) (sc := defScope s_l_text) (by decide +kernel)) (fun _ _ _ _ _ => (pg_name (i := 2) sc_l_text.nd rfl (Or.inl rfl))) (fun _ _ _ _ _ => pts_nil) (fun _ _ _ _ _ => (pe_call (ok_l_character T) (hr.mono (by decide)) (by rfl) T.l_character.mgf T.l_character.F.kp T.l_character.b .nil pass0 (pa_cons (pv 0) pa_nil))))))))), ?_⟩
    refine ⟨_, rfl, p, _, rfl, hp, (by decide), (by decide), fun n H1 n0 n1 D1 => ?_⟩
    refine ⟨_, rfl, p, _, rfl, D1.2, (by decide), (by decide), fun z H2 z0 z1 D2 => ?_⟩
    have D12 := D1.trans D2
    refine ⟨rfl, _, rfl, ?_⟩
    refine ite2 (fun _ => ?_) (fun _ => ?_)
    · refine ⟨_, rfl, p, rfl, D12.2, fun c H3 hc D3 => ?_⟩
      refine ⟨_, rfl, _, _, rfl, rfl, by omega, by omega, (by show 1 ≤ 16; decide), ?_⟩
      obtain ⟨k, hk, ek⟩ := codes_mul (c := c) (n := n)
      refine q _ _ ?_ (fun d hd => ?_) (D12.trans D3)
      · rw [← codes_len, ek, List.length_replicate]
        omega
      · rw [ek] at hd
        rw [List.eq_of_mem_replicate hd]
        exact hc
    · refine ⟨⟨_, rfl⟩, _, rfl, n, rfl, by omega, by omega, fun L hL => lc_range (lo := 0) (n := n.toNat) (fun i H' => Dr p H H' ∧ ∃ ys : List Str, ys.length = i ∧ (∀ y ∈ ys, Small y ∧ y.length = 1) ∧ H' L = some (.lst (ys.map V.str))) ?_ ?_ ?_⟩
      · exact ⟨D12.new hL, [], rfl, fun y hy => (nomatch hy), upd_same⟩
      · rintro i H' hi ⟨D3, ys, hl, hy, hL'⟩
        have nL := D12.free hL
        refine ⟨rfl, ?_⟩
        refine ⟨_, rfl, p, rfl, D3.2, fun c H4 hc D4 => ?_⟩
        have hL4 := D4.1 _ _ nL.1 hL'
        refine ⟨_, hL4, ?_, ⟨(D3.trans D4).mut nL, ys ++ [⟨#[c]⟩], ?_, ?_, ?_⟩⟩
        · rw [List.length_map, hl]
          exact small1000 (by omega)
        · rw [List.length_append, hl]
          rfl
        · intro y h
          rcases List.mem_append.mp h with h | h
          · exact hy y h
          · rw [List.mem_singleton.mp h]
            exact ⟨small_one hc, rfl⟩
        · rw [upd_same, List.map_append]
          rfl
      · rintro H' ⟨D3, ys, hl, hy, hL'⟩
        obtain ⟨j1, j2⟩ := join_small ys hy
        have hs : ys.map (·.length) = List.replicate ys.length 1 := List.eq_replicate_iff.mpr ⟨List.length_map .., fun b hb => by
          obtain ⟨y, hm, e⟩ := List.mem_map.mp hb
          rw [← e]
          exact (hy y hm).2⟩
        refine ⟨_, L, ys, rfl, rfl, .inl (SqL.of hL'), ?_, q _ _ (by omega) j1 D3⟩
        rw [hs, List.sum_replicate_nat]
        have e0 : (Str.ofString "").length = 0 := by decide +kernel
        rw [e0]
        omega
def spLaw (K : PySem.W.Frag) : Sp := fun vs H Q _ => ∃ (a : Addr) (ns : List Int), vs = [.ref a] ∧ SqL K H a (ns.map V.int) ∧ ns.length ≤ 63 ∧ ∀ H', Q (.bl true) H'
theorem ok_law {f : Addr} {fd : FuncData} (F : Fun K "law" "law" s_law f fd) (T : Txt K mg) : FnOk P w K mg base CX0 5 f fd ["_law_script"] (spLaw K) := by
  refine F.ok sc_law (fun vs H Q E h => ?_) (fun cdv A outer s H vs Q E hr h => ?_)
  · obtain ⟨a, ns, rfl, _⟩ := h
    rfl
  · obtain ⟨a, ns, rfl, hS, hlen, k⟩ := h
    refine ⟨_, (pss_cons (ps_for PassesOwn.never (by rfl) (pi_range1 (by rfl) T.g_range (pa_cons (pe_callB (call_max2 rfl) (by rfl) T.g_max (by decide +kernel) (pa_cons pe_int (pa_cons (pe_callB (call_min2 rfl) (by rfl) T.g_min (by decide +kernel) (pa_cons (pe_callB call_len_seq (by rfl) T.g_len (by decide +kernel) (pa_cons (pv 0) pa_nil)) (pa_cons pe_int pa_nil))) pa_nil))) pa_nil)) (pg_name (i := 1) sc_law.nd rfl (Or.inl rfl))
      (pss_cons (ps_set (i := 2) sc_law.nd rfl (Or.inl rfl) (pe_call (ok_l_pool T) (hr.mono (by decide)) (by rfl) T.l_pool.mgf T.l_pool.F.kp T.l_pool.b .nil pass0 (pa_cons (pv 0) (pa_cons (pv 1) pa_nil))))
      (pss_cons (ps_par (i := 3) (j := 4) (by rfl) sc_law.nd rfl rfl (by decide) rfl rfl (pa_cons (pe_call (ok_l_text T) (hr.mono (by decide)) (by rfl) T.l_text.mgf T.l_text.F.kp T.l_text.b .nil pass0 (pa_cons (pv 2) pa_nil)) (pa_cons (pe_call (ok_l_text T) (hr.mono (by decide)) (by rfl) T.l_text.mgf T.l_text.F.kp T.l_text.b .nil pass0 (pa_cons (pv 2) pa_nil)) pa_nil)) (by rfl))
      (pss_cons (ps_set (i := 5) sc_law.nd rfl (Or.inl rfl) (pe_call (ok_check_number T) (hr.mono (by decide)) (by rfl) T.check_number.mgf T.check_number.F.kp T.check_number.b .nil pass0 (pa_cons (pv 3) pa_nil)))
      (pss_cons (ps_if (PW.pt (pw_or (pt_val (pe_callB call_isi (by rfl) T.g_isinstance (by decide +kernel) (pa_cons (pv 5) (pa_cons (pe_bltn (v := .ty "bool") (by rfl) T.g_bool (by decide +kernel) rfl) pa_nil)))) (pw_or (pt_not (pt_val (pe_callB call_isi (by rfl) T.g_isinstance (by decide +kernel) (pa_cons (pv 5) (pa_cons (pe_bltn (v := .ty "int") (by rfl) T.g_int (by decide +kernel) rfl) pa_nil))))) (pw_or1 (pt_cmpR op_ne (pv 5) (pe_call (ok_l_check T) (hr.mono (by decide)) (by rfl) T.l_check.mgf T.l_check.F.kp T.l_check.b .nil pass0 (pa_cons pe_int (pa_cons (pv 3) pa_nil))) (nomark _)))))) (pss_one (ps_ret pe_bl)) pss_nil)
      (pss_cons (ps_if (pt_cmpR op_ne (pe_call (ok_check_number T) (hr.mono (by decide)) (by rfl) T.check_number.mgf T.check_number.F.kp T.check_number.b .nil pass0 (pa_cons (pe_op op_add_str (pv 3) (pv 4)) pa_nil)) (pe_call (ok_l_check T) (hr.mono (by decide)) (by rfl) T.l_check.mgf T.l_check.F.kp T.l_check.b .nil pass0 (pa_cons (pv 5) (pa_cons (pv 4) pa_nil))) (nomark _)) (pss_one (ps_ret pe_bl)) pss_nil)
      (pss_one (ps_if (pt_cmpR op_ne (pv 3) pe_str (nomark _)) (pss_cons (ps_par (i := 6) (j := 7) (by rfl) sc_law.nd rfl rfl (by decide) rfl rfl (pa_cons (pe_call (ok_l_draw T) (hr.mono (by decide)) (by rfl) T.l_draw.mgf T.l_draw.F.kp T.l_draw.b .nil pass0 (pa_cons (pv 2) (pa_cons (pe_callB call_len_str (by rfl) T.g_len (by decide +kernel) (pa_cons (pv 3) pa_nil)) pa_nil))) (pa_cons (pe_call (ok_l_character T) (hr.mono (by decide)) (by rfl) T.l_character.mgf T.l_character.F.kp T.l_character.b .nil pass0 (pa_cons (pv 2) pa_nil)) pa_nil)) (by rfl))
      (pss_cons (ps_set (i := 8) sc_law.nd rfl (Or.inl rfl) (pe_op op_add_str (pe_op op_add_str (pe_slice sl_str (pv 3) po_none (po_some (pv 6))) (pv 7)) (pe_slice sl_str (pv 3) (po_some (pe_op op_add (pv 6) pe_int)) po_none)))
      (pss_cons (ps_if (pt_cmpR op_ne (pe_cmpR op_eq (pe_call (ok_check_number T) (hr.mono (by decide)) (by rfl) T.check_number.mgf T.check_number.F.kp T.check_number.b .nil pass0 (pa_cons (pv 8) pa_nil)) (pv 5) (nomark _)) (pe_cmpR op_eq (pv 8) (pv 3) (nomark _)) (nomark _)) (pss_one (ps_ret pe_bl)) pss_nil)
      (pss_one (ps_if (pt_cmpR op_ne (pe_cmpR op_eq (pe_call (ok_check_number T) (hr.mono (by decide)) (by rfl) T.check_number.mgf T.check_number.F.kp T.check_number.b .nil pass0 (pa_cons (pe_op op_add_str (pv 8) (pv 4)) pa_nil)) (pe_call (ok_check_number T) (hr.mono (by decide)) (by rfl) T.check_number.mgf T.check_number.F.kp T.check_number.b .nil pass0 (pa_cons (pe_op op_add_str (pv 3) (pv 4)) pa_nil)) (nomark _)) (pe_cmpR op_eq (pv 8) (pv 3) (nomark _)) (nomark _)) (pss_one (ps_ret pe_bl)) pss_nil))))) pss_nil))))))))
      (pss_one (ps_ret pe_bl))), ?_⟩
    have e16 : ∀ m : Int, m = (if (if (16 : Int) < ((ns.map V.int).length : Int) then (16 : Int) else ((ns.map V.int).length : Int)) > 1 then (if (16 : Int) < ((ns.map V.int).length : Int) then (16 : Int) else ((ns.map V.int).length : Int)) else 1) → 0 ≤ m ∧ m ≤ 16 := by
      intro m e
      split at e <;> split at e <;> omega
    refine ⟨_, rfl, a, _, rfl, .inl hS, _, _, rfl, _, _, rfl, _, rfl, ?_⟩
    obtain ⟨m0, m1⟩ := e16 _ rfl
    refine ⟨by omega, by omega, for_range (lo := 0) (fun i σ H' => Same H H' ∧ ∃ v1 v2 v3 v4 v5 v6 v7 v8, σ = [some (.ref a), v1, v2, v3, v4, v5, v6, v7, v8]) ⟨Same.refl _, none, none, none, none, none, none, none, none, rfl⟩ ?_ ?_⟩
    · rintro i σ H' hi ⟨sm, v1, v2, v3, v4, v5, v6, v7, v8, rfl⟩
      rw [Int.zero_add]
      have hi2 : i < 16 := by omega
      refine ⟨_, rfl, _, rfl, a, ns, i, rfl, sm.seq hS, by omega, fun p H1 hp s1 P1 => ?_⟩
      refine ⟨_, rfl, p, rfl, P1, fun x H2 hx sx D2 => ?_⟩
      refine ⟨_, rfl, p, rfl, D2.2, fun y H3 hy sy D3 => ?_⟩
      refine ⟨_, _, rfl, ?_⟩
      have hxs : x.length ≤ sizeLine := Nat.le_trans hx (by decide)
      have hsum : x.length + y.length ≤ sizeLine := Nat.le_trans (Nat.add_le_add hx hy) (by decide)
      refine ⟨_, rfl, x, rfl, ?_⟩
      refine ⟨_, rfl, _, _, _, _, false, rfl, .ty _, .base (.int _), kit_ty (by decide +kernel), _, rfl, ?_⟩
      refine iteF ?_
      refine ⟨_, rfl, _, _, _, _, true, rfl, .ty _, .base (.int _), kit_ty (by decide +kernel), _, rfl, ?_⟩
      refine iteF ?_
      refine ⟨_, rfl, _, rfl, 0, x, rfl, rfl, _, rfl, ?_⟩
      refine iteNS rfl ?_
      refine ⟨_, rfl, _, rfl, _, _, rfl, rfl, hsum, x ++ y, rfl, _, rfl, _, rfl, _, y, rfl, rfl, _, rfl, ?_⟩
      refine iteNS (by rw [codes_append, chk_append]) ?_
      refine ⟨_, rfl, rfl, _, rfl, ?_⟩
      have fin : ∀ H' : Hp, Dr p H1 H' → Same H H' := fun H' D b o hb => by
        have h1 := s1 b o (sm b o hb)
        exact D.1 b o (ne_of_none (sm b o hb) hp) h1
      refine ite2 (fun hne => ?_) (fun _ => ?_)
      · have hx0 : 0 < x.length := by
          rcases Nat.eq_zero_or_pos x.length with z | z
          · exfalso
            have : x = Str.ofString "" := codes_inj (by
              have e0 : codes (Str.ofString "") = [] := by decide +kernel
              rw [e0]
              exact List.eq_nil_of_length_eq_zero (by rw [codes_len]; exact z))
            rw [this] at hne
            simp at hne
          · exact z
        refine ⟨_, rfl, _, rfl, x, rfl, hxs, p, _, rfl, D3.2, by omega, by omega, fun d H4 d0 d1 D4 => ?_⟩
        refine ⟨_, rfl, p, rfl, D4.2, fun c H5 hc D5 => ?_⟩
        refine ⟨_, _, rfl, ?_⟩
        refine ⟨_, rfl, _, rfl, _, rfl, x, rfl, hxs, _, rfl, _, _, rfl, rfl, ?_, _, rfl, _, rfl, _, _, rfl, rfl, _, rfl, x, rfl, hxs, _, _, rfl, rfl, ?_, ?_⟩
        · refine Nat.le_trans (Nat.add_le_add (Nat.le_trans (cutS_length _ _ _) hx) (Nat.le_refl _)) ?_
          show 40 + 1 ≤ sizeLine
          decide
        · rw [← codes_len, codes_append, List.length_append, codes_len, codes_len]
          refine Nat.le_trans (Nat.add_le_add (Nat.add_le_add (Nat.le_trans (cutS_length _ _ _) hx) (Nat.le_refl _)) (Nat.le_trans (cutS_length _ _ _) hx)) ?_
          show 40 + 1 + 40 ≤ sizeLine
          decide
        · obtain ⟨A1, B1, z, hz, ez, eb⟩ := bent_codes (x := x) (c := c) d0 d1
          generalize cutS x none (some d) ++ ⟨#[c]⟩ ++ cutS x (some (d + 1)) none = bent at eb
          have hbl : bent.length = x.length := by
            rw [← codes_len, ← codes_len, eb, ez]
            simp
          have hz128 : z < 128 := sx z hz
          have hbe : (bent = x) ↔ c = z := by
            constructor
            · intro e
              rw [e, ez] at eb
              have := List.append_cancel_left eb
              exact ((List.cons.inj this).1).symm
            · intro e
              refine codes_inj ?_
              rw [eb, ez, e]
          have hb2 : bent.length + y.length ≤ sizeLine := by rw [hbl]; exact hsum
          have h1 : (chk 0 (codes bent) = chk 0 (codes x)) ↔ bent = x := by
            rw [hbe]
            constructor
            · intro e
              rw [eb, ez] at e
              exact chk_put hc hz128 e
            · intro e
              rw [eb, ez, e]
          have h2 : (chk 0 (codes (bent ++ y)) = chk 0 (codes (x ++ y))) ↔ bent = x := by
            rw [hbe]
            constructor
            · intro e
              rw [codes_append, codes_append, eb, ez, List.append_assoc, List.append_assoc, List.cons_append, List.cons_append] at e
              exact chk_put hc hz128 e
            · intro e
              rw [hbe.mpr e]
          refine ⟨_, rfl, bent, rfl, _, rfl, rfl, _, rfl, _, rfl, rfl, rfl, _, rfl, ?_⟩
          refine iteNS (bl_iff h1) ?_
          refine ⟨_, rfl, _, rfl, _, _, rfl, rfl, hb2, bent ++ y, rfl, _, rfl, _, rfl, _, _, rfl, rfl, hsum, x ++ y, rfl, rfl, _, rfl, _, rfl, rfl, rfl, _, rfl, ?_⟩
          refine iteNS (bl_iff h2) ?_
          exact ⟨fin _ (((D2.trans D3).trans D4).trans D5), _, _, _, _, _, _, _, _, rfl⟩
      · exact ⟨fin _ (D2.trans D3), _, _, _, _, _, _, _, _, rfl⟩
    · rintro σ H' _
      exact k H'
end
theorem all_mk {l : PySem.W.OpenLaw} {w : World} {K : PySem.W.Frag} {h : Heap} {mg : Str → Option Value} {fa f0 f1 f2 f3 f4 f5 f6 : Addr} (X : K.In h) (G : h.Ns mainGlobals mg) (hfa : mg "law" = some (.ref fa))
    {od0 an0 od1 an1 od2 an2 od3 an3 od4 an4 od5 an5 od6 an6 : Option Addr} {sl0 sl1 sl2 sl3 sl4 sl5 sl6 : Array (Option Value)} {oc0 kV0 dc0 pm0 cd0 ct0 oc1 kV1 dc1 pm1 cd1 ct1 oc2 kV2 dc2 pm2 cd2 ct2 oc3 kV3 dc3 pm3 cd3 ct3 oc4 kV4 dc4 pm4 cd4 ct4 oc5 kV5 dc5 pm5 cd5 ct5 oc6 kV6 dc6 pm6 cd6 ct6 : Value}
    (a0 : PySem.W.nsIn K mainGlobals "check_number" = some (some (.ref f0))) (l0 : K.lookup f0 = some ⟨oc0, od0, .func (PySem.W.fnOf "check_number" "check_number" (defArgs s_check_number) (defBody s_check_number) (defScope s_check_number) .none kV0 dc0 pm0 an0 cd0 ct0), sl0⟩) (c0 : PySem.W.codeIn K cd0 "check_number" = true) (k0 : PySem.W.keepIn K (.ref f0) = true)
    (a1 : PySem.W.nsIn K mainGlobals "_law_pool" = some (some (.ref f1))) (l1 : K.lookup f1 = some ⟨oc1, od1, .func (PySem.W.fnOf "_law_pool" "_law_pool" (defArgs s_l_pool) (defBody s_l_pool) (defScope s_l_pool) .none kV1 dc1 pm1 an1 cd1 ct1), sl1⟩) (c1 : PySem.W.codeIn K cd1 "_law_pool" = true) (k1 : PySem.W.keepIn K (.ref f1) = true)
    (a2 : PySem.W.nsIn K mainGlobals "_law_draw" = some (some (.ref f2))) (l2 : K.lookup f2 = some ⟨oc2, od2, .func (PySem.W.fnOf "_law_draw" "_law_draw" (defArgs s_l_draw) (defBody s_l_draw) (defScope s_l_draw) .none kV2 dc2 pm2 an2 cd2 ct2), sl2⟩) (c2 : PySem.W.codeIn K cd2 "_law_draw" = true) (k2 : PySem.W.keepIn K (.ref f2) = true)
    (a3 : PySem.W.nsIn K mainGlobals "_law_character" = some (some (.ref f3))) (l3 : K.lookup f3 = some ⟨oc3, od3, .func (PySem.W.fnOf "_law_character" "_law_character" (defArgs s_l_character) (defBody s_l_character) (defScope s_l_character) .none kV3 dc3 pm3 an3 cd3 ct3), sl3⟩) (c3 : PySem.W.codeIn K cd3 "_law_character" = true) (k3 : PySem.W.keepIn K (.ref f3) = true)
    (a4 : PySem.W.nsIn K mainGlobals "_law_text" = some (some (.ref f4))) (l4 : K.lookup f4 = some ⟨oc4, od4, .func (PySem.W.fnOf "_law_text" "_law_text" (defArgs s_l_text) (defBody s_l_text) (defScope s_l_text) .none kV4 dc4 pm4 an4 cd4 ct4), sl4⟩) (c4 : PySem.W.codeIn K cd4 "_law_text" = true) (k4 : PySem.W.keepIn K (.ref f4) = true)
    (a5 : PySem.W.nsIn K mainGlobals "_law_check" = some (some (.ref f5))) (l5 : K.lookup f5 = some ⟨oc5, od5, .func (PySem.W.fnOf "_law_check" "_law_check" (defArgs s_l_check) (defBody s_l_check) (defScope s_l_check) .none kV5 dc5 pm5 an5 cd5 ct5), sl5⟩) (c5 : PySem.W.codeIn K cd5 "_law_check" = true) (k5 : PySem.W.keepIn K (.ref f5) = true)
    (a6 : PySem.W.nsIn K mainGlobals "law" = some (some (.ref f6))) (l6 : K.lookup f6 = some ⟨oc6, od6, .func (PySem.W.fnOf "law" "law" (defArgs s_law) (defBody s_law) (defScope s_law) .none kV6 dc6 pm6 an6 cd6 ct6), sl6⟩) (c6 : PySem.W.codeIn K cd6 "law" = true) (k6 : PySem.W.keepIn K (.ref f6) = true)
    (z_len : PySem.W.nsIn K mainGlobals "len" = some none)
    (z_int : PySem.W.nsIn K mainGlobals "int" = some none)
    (z_range : PySem.W.nsIn K mainGlobals "range" = some none)
    (z_min : PySem.W.nsIn K mainGlobals "min" = some none)
    (z_max : PySem.W.nsIn K mainGlobals "max" = some none)
    (z_ord : PySem.W.nsIn K mainGlobals "ord" = some none)
    (z_isinstance : PySem.W.nsIn K mainGlobals "isinstance" = some none)
    (z_bool : PySem.W.nsIn K mainGlobals "bool" = some none)
    : ∃ fd : FuncData, (∀ (s : Shared) (v : Value), BindsTo s fd ⟨[v], []⟩ [("_law_script", v)]) ∧ ∀ base : Heap, K.In base → base.Ns mainGlobals mg → FnOk l.prog w K mg base CX0 5 fa fd ["_law_script"] (spLaw K) := by
  have e := hfa.symm.trans (PySem.W.mg_of X G a6)
  cases e
  have F0 := fun_mk (st := s_check_number) l0 c0 k0
  have b0 := F0.binds (ps := ["text"]) fun _ _ _ _ _ _ us hl => match us, hl with | [_], _ => rfl
  have F1 := fun_mk (st := s_l_pool) l1 c1 k1
  have b1 := F1.binds (ps := ["_law_script", "_law_k"]) fun _ _ _ _ _ _ us hl => match us, hl with | [_, _], _ => rfl
  have F2 := fun_mk (st := s_l_draw) l2 c2 k2
  have b2 := F2.binds (ps := ["_law_pool_here", "_law_many"]) fun _ _ _ _ _ _ us hl => match us, hl with | [_, _], _ => rfl
  have F3 := fun_mk (st := s_l_character) l3 c3 k3
  have b3 := F3.binds (ps := ["_law_pool_here"]) fun _ _ _ _ _ _ us hl => match us, hl with | [_], _ => rfl
  have F4 := fun_mk (st := s_l_text) l4 c4 k4
  have b4 := F4.binds (ps := ["_law_pool_here"]) fun _ _ _ _ _ _ us hl => match us, hl with | [_], _ => rfl
  have F5 := fun_mk (st := s_l_check) l5 c5 k5
  have b5 := F5.binds (ps := ["_law_begin", "_law_text_here"]) fun _ _ _ _ _ _ us hl => match us, hl with | [_, _], _ => rfl
  have F6 := fun_mk (st := s_law) l6 c6 k6
  have T : Txt K mg := ⟨f0, _, ⟨F0, PySem.W.mg_of X G a0, b0⟩, f1, _, ⟨F1, PySem.W.mg_of X G a1, b1⟩, f2, _, ⟨F2, PySem.W.mg_of X G a2, b2⟩, f3, _, ⟨F3, PySem.W.mg_of X G a3, b3⟩, f4, _, ⟨F4, PySem.W.mg_of X G a4, b4⟩, f5, _, ⟨F5, PySem.W.mg_of X G a5, b5⟩, PySem.W.mg_none_of X G z_len, PySem.W.mg_none_of X G z_int, PySem.W.mg_none_of X G z_range, PySem.W.mg_none_of X G z_min, PySem.W.mg_none_of X G z_max, PySem.W.mg_none_of X G z_ord, PySem.W.mg_none_of X G z_isinstance, PySem.W.mg_none_of X G z_bool⟩
  exact ⟨PySem.W.fnOf "law" "law" (defArgs s_law) (defBody s_law) (defScope s_law) .none kV6 dc6 pm6 an6 cd6 ct6, fun s v => .of_eq rfl, fun base _ _ => ok_law F6 T⟩
theorem walk {l : PySem.W.OpenLaw} {q : Program} {loose : List Str} {XP : (Str → Option Value) → Heap → Prop} {YP : World → Heap → Prop} {d : DefRec} {K : Params → PySem.W.Frag} (hn : l.most = some 63) (hdf : d.params.defaults = [])
    (hY : ∀ (w : World) (h : Heap), YP w h → (K w.params).In h)
    (F : ∀ (w : World) (mg : Str → Option Value) (fa : Addr) (h : Heap), (K w.params).In h → h.Ns mainGlobals mg → mg d.name = some (.ref fa) →
      ∃ fd : FuncData, (∀ (s : Shared) (u : Value), BindsTo s fd ⟨[u], []⟩ [("_law_script", u)]) ∧ ∀ base : Heap, (K w.params).In base → base.Ns mainGlobals mg → FnOk l.prog w (K w.params) mg base CX0 5 fa fd ["_law_script"] (spLaw (K w.params))) :
    PySem.W.WalkO q loose XP YP l.row.toRowW d [] (fun f vs => PySem.call f vs) :=
  L2.walk_ofB (n := 63) (k := 5) (x := "_law_script") (CX := fun _ => CX0) (sp := fun w => spLaw (K w.params)) hn (by decide) hdf ⟨rfl, by decide, by decide⟩ hY F (fun _ _ a ns hl hb _ hS => ⟨a, ns, rfl, hS, hl, fun _ => rfl⟩) fun _ _ _ _ _ z => z
end My
open PySem PySem.W PyProof.Rows
set_option maxRecDepth 100000 in
set_option maxHeartbeats 0 in
theorem PySem.Challenge.cw_twodivisions_k52_check_numbers_of_texts_holds : PySem.Challenge.rw_twodivisions_k52_check_numbers_of_texts.Holds := by
  w_on; o_law; k_head; (case hw => w_witness2)
  k_fill
  refine My.walk (l := PySem.Challenge.rw_twodivisions_k52_check_numbers_of_texts) rfl rfl (fun w h Y => PySem.W.kIn_of Y) ?F
  case F =>
    intro w mg fa h KX G hmg
    refine' My.all_mk KX G hmg ?a0 ?l0 ?c0 ?k0 ?a1 ?l1 ?c1 ?k1 ?a2 ?l2 ?c2 ?k2 ?a3 ?l3 ?c3 ?k3 ?a4 ?l4 ?c4 ?k4 ?a5 ?l5 ?c5 ?k5 ?a6 ?l6 ?c6 ?k6 ?z_len ?z_int ?z_range ?z_min ?z_max ?z_ord ?z_isinstance ?z_bool
    (case a0 => k_is)
    (case l0 => k_is)
    (case c0 => k_is)
    (case k0 => k_is)
    (case a1 => k_is)
    (case l1 => k_is)
    (case c1 => k_is)
    (case k1 => k_is)
    (case a2 => k_is)
    (case l2 => k_is)
    (case c2 => k_is)
    (case k2 => k_is)
    (case a3 => k_is)
    (case l3 => k_is)
    (case c3 => k_is)
    (case k3 => k_is)
    (case a4 => k_is)
    (case l4 => k_is)
    (case c4 => k_is)
    (case k4 => k_is)
    (case a5 => k_is)
    (case l5 => k_is)
    (case c5 => k_is)
    (case k5 => k_is)
    (case a6 => k_is)
    (case l6 => k_is)
    (case c6 => k_is)
    (case k6 => k_is)
    (case z_len => k_is)
    (case z_int => k_is)
    (case z_range => k_is)
    (case z_min => k_is)
    (case z_max => k_is)
    (case z_ord => k_is)
    (case z_isinstance => k_is)
    (case z_bool => k_is)
