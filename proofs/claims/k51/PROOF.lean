import PyProof.Rows.All
import Wide.All
import OpenK.AllK
import Wide.FinOn
import HandS.ForMost
import HandS.ForExc
import HandS.Wide
import HandS.WideBits
import HandS.EndBits
import HandS.IsInst
import HandS.Walk
import HandS.ExcInit
import HandS.ExcField
import HandS.ExcIs
import HandS.Style
import HandS.Property
import HandS.Defaults
import HandS.Star
import HandS.TupAny
import HandS.CallSlots
import HandS.NoneIn
import KE.KStateDown
import HandS.Head0
import HandS.Head1
import HandS.Head2
import HandS.HeadEnd
import HandS.HeadHook1
import HandS.HeadHook2

import PySem.Challenge.RW_twodivisions_k51_values_of_linear_machin
set_option Elab.async false
set_option maxRecDepth 100000
set_option maxHeartbeats 4000000
set_option linter.all false
namespace My
open PySem L2
/-! the mirror layer: what a def does, as a plain function over frozen data and a small store of things that change -/
inductive D where
  | non | bl (b : Bool) | int (i : Int) | str (x : Str)
  | lst (xs : List D) | tup (xs : List D) | obj (c : String) (fs : List (String × D))
  | dct (kvs : List (D × D)) | cls (c : String) | ty (n : String) | lck (ns : List Int)
  /-- x, the very object at a -/
  | idn (x : D) (a : Addr)
inductive Va where
  | d (x : D) | ref (n : Nat)
inductive MO where
  | lst (xs : List Va) | obj (c : String) (fs : List (String × Va)) | dct (kvs : List (D × Va))
abbrev Sto := List MO
abbrev Ev := List (Option Va)
inductive Res (α : Type) where
  | ok (a : α) (st : Sto) | er (c : String) (fs : List (String × Va)) (st : Sto) | bad
inductive Out where
  | nx (ρ : Ev) (st : Sto) | rt (v : Va) (st : Sto) | bk (ρ : Ev) (st : Sto) | ct (ρ : Ev) (st : Sto) | er (c : String) (fs : List (String × Va)) (ρ : Ev) (st : Sto) | bad
abbrev ME := Ev → Sto → Res Va
abbrev MT := Ev → Sto → Res Bool
abbrev MA := Ev → Sto → Res (List Va)
abbrev MS := Ev → Sto → Out
abbrev MF := List Va → Sto → Res Va
abbrev I' (i : Int) : Va := .d (.int i)
abbrev B' (b : Bool) : Va := .d (.bl b)
def Res.bind {α β : Type} : Res α → (α → Sto → Res β) → Res β
  | .ok a st, k => k a st
  | .er c fs st, _ => .er c fs st
  | .bad, _ => .bad
structure Ext (H F : Hp) (ad : List Addr) (H' F' : Hp) (ad' : List Addr) : Prop where
  pre : ∃ zs, ad' = ad ++ zs
  fz : Same F F'
  kp : ∀ b o, b ∉ ad → H b = some o → H' b = some o
  dm : ∀ b, H' b = none → H b = none
  nw : ∀ b o, F' b = some o → F b = some o ∨ H b = none
  na : ∀ b ∈ ad', b ∈ ad ∨ H b = none
theorem Ext.refl {H F : Hp} {ad : List Addr} : Ext H F ad H F ad := ⟨⟨[], (List.append_nil _).symm⟩, Same.refl _, fun _ _ _ h => h, fun _ h => h, fun _ _ h => .inl h, fun _ h => .inl h⟩
theorem Ext.trans {H F H1 F1 H2 F2 : Hp} {ad ad1 ad2 : List Addr} (a : Ext H F ad H1 F1 ad1) (b : Ext H1 F1 ad1 H2 F2 ad2) : Ext H F ad H2 F2 ad2 := by
  obtain ⟨zs, ez⟩ := a.pre
  obtain ⟨ys, ey⟩ := b.pre
  refine ⟨⟨zs ++ ys, by rw [ey, ez, List.append_assoc]⟩, a.fz.trans b.fz, fun c o n h => ?_, fun c h => a.dm c (b.dm c h), fun c o h => ?_, fun c h => ?_⟩
  · refine b.kp c o (fun z => ?_) (a.kp c o n h)
    rcases a.na c z with z | z
    · exact n z
    · rw [h] at z; cases z
  · rcases b.nw c o h with h | h
    · exact a.nw c o h
    · exact .inr (a.dm c h)
  · rcases b.na c h with h | h
    · exact a.na c h
    · exact .inr (a.dm c h)
/-- an own class -/
structure ClsOk (K : PySem.W.Frag) (C : Addr) : Prop where
  cl : Cls K C
  tc : PySem.W.findIn K (.ref C) "__class__" = some (some (.builtin "object.__class__"))
  tg : PySem.W.specialIn K (.builtin "object.__class__") "__get__" = some (some (.builtin "getset_descriptor.__get__"))
  tk : PySem.W.takesIn K (.builtin "object.__class__") = some true
  tm : PySem.W.mroIn K C (.type "object") = some true
  o : ∀ T ∈ ["int", "bool", "str", "list", "tuple", "dict"], PySem.W.kitOne K (.ref C) (.type T) = some false
  i : ∀ T ∈ ["int", "bool", "str", "list", "tuple", "dict", "NoneType"], PySem.W.kitOne K (.type T) (.ref C) = some false
/-- what is static -/
structure Ga where
  K : PySem.W.Frag
  ca : String → Addr
  cs : List String
  cok : ∀ c ∈ cs, ClsOk K (ca c)
  kit : ∀ c ∈ cs, ∀ e ∈ cs, PySem.W.kitOne K (.ref (ca c)) (.ref (ca e)) = some (decide (c = e))
  /-- what is known besides (in an except suite: the error) -/
  jv : Hp → List Addr → L2.St → Prop
  jm : ∀ {H F H' F' : Hp} {ad ad' : List Addr} {σ : L2.St}, Ext H F ad H' F' ad' → jv F ad σ → jv F' ad' σ
  /-- own exceptions -/
  xs : List String
  xm : ∀ c ∈ xs, ∀ e ∈ xs, PySem.W.exmOne K (.ref (ca c)) (.ref (ca e)) = some (decide (c = e))
def Ga.Stb (G : Ga) : Prop := ∀ (F : Hp) (ad : List Addr) (σ : L2.St) (i : Nat) (v : Option V), G.jv F ad σ → G.jv F ad (σ.set i v)
theorem ofS_inj {a b : String} (h : Str.ofString a = Str.ofString b) : a = b := by
  rw [Str.ofString_eq_toList, Str.ofString_eq_toList] at h
  injection h with h
  have h := Array.toList_inj.mpr h
  apply String.toList_inj.mp
  revert h
  generalize a.toList = x
  generalize b.toList = y
  intro h
  induction x generalizing y with
  | nil =>
    cases y with
    | nil => rfl
    | cons d y => simp at h
  | cons c x ih =>
    cases y with
    | nil => simp at h
    | cons d y =>
      simp only [List.map_cons, List.cons.injEq] at h
      rw [ih y h.2]
      have : c = d := by
        apply Char.ext
        apply UInt32.toNat_inj.mp
        exact h.1
      rw [this]
mutual
inductive Rep (G : Ga) (F : Hp) : V → D → Prop
  | non : Rep G F .non .non
  | bl (b : Bool) : Rep G F (.bl b) (.bl b)
  | int (i : Int) : Rep G F (.int i) (.int i)
  | str (x : Str) : Rep G F (.str x) (.str x)
  | lst {a : Addr} {vs : List V} {ds : List D} (h : F a = some (.lst vs)) (t : Reps G F vs ds) : Rep G F (.ref a) (.lst ds)
  | tup {a : Addr} {vs : List V} {ds : List D} (h : SqT G.K F a vs) (t : Reps G F vs ds) : Rep G F (.ref a) (.tup ds)
  | obj {a dx : Addr} {vfs : List (Str × V)} {c : String} {fs : List (String × D)} (hc : c ∈ G.cs) (h : F a = some (.ins (G.ca c) dx vfs)) (t : Repf G F vfs fs) : Rep G F (.ref a) (.obj c fs)
  | cls (c : String) (hc : c ∈ G.cs) : Rep G F (.ref (G.ca c)) (.cls c)
  | ty (n : String) : Rep G F (.ty n) (.ty n)
  | lck {a : Addr} {ns : List Int} (h : SqL G.K F a (ns.map V.int)) : Rep G F (.ref a) (.lck ns)
  | idn {a : Addr} {x : D} (h : Rep G F (.ref a) x) : Rep G F (.ref a) (.idn x a)
inductive Reps (G : Ga) (F : Hp) : List V → List D → Prop
  | nil : Reps G F [] []
  | cons {v : V} {d : D} {vs : List V} {ds : List D} (h : Rep G F v d) (t : Reps G F vs ds) : Reps G F (v :: vs) (d :: ds)
inductive Repf (G : Ga) (F : Hp) : List (Str × V) → List (String × D) → Prop
  | nil : Repf G F [] []
  | cons {f : String} {v : V} {d : D} {vs : List (Str × V)} {ds : List (String × D)} (h : Rep G F v d) (t : Repf G F vs ds) : Repf G F ((Str.ofString f, v) :: vs) ((f, d) :: ds)
end
theorem sqT_same {K : PySem.W.Frag} {H H' : Hp} {a : Addr} {xs : List V} (e : Same H H') (h : SqT K H a xs) : SqT K H' a xs := by
  rcases h with (h | ⟨o, h⟩) | h
  · exact .inl (.inl (e _ _ h))
  · exact .inl (.inr ⟨o, e _ _ h⟩)
  · exact .inr h
mutual
theorem Rep.same {G : Ga} {F F' : Hp} (e : Same F F') : ∀ {v : V} {d : D}, Rep G F v d → Rep G F' v d
  | _, _, .non => .non
  | _, _, .bl b => .bl b
  | _, _, .int i => .int i
  | _, _, .str x => .str x
  | _, _, .lst h t => .lst (e _ _ h) (Reps.same e t)
  | _, _, .tup h t => .tup (sqT_same e h) (Reps.same e t)
  | _, _, .obj hc h t => .obj hc (e _ _ h) (Repf.same e t)
  | _, _, .cls c hc => .cls c hc
  | _, _, .ty n => .ty n
  | _, _, .lck h => .lck (e.seq h)
  | _, _, .idn h => .idn (Rep.same e h)
theorem Reps.same {G : Ga} {F F' : Hp} (e : Same F F') : ∀ {v : List V} {d : List D}, Reps G F v d → Reps G F' v d
  | _, _, .nil => .nil
  | _, _, .cons h t => .cons (Rep.same e h) (Reps.same e t)
theorem Repf.same {G : Ga} {F F' : Hp} (e : Same F F') : ∀ {v : List (Str × V)} {d : List (String × D)}, Repf G F v d → Repf G F' v d
  | _, _, .nil => .nil
  | _, _, .cons h t => .cons (Rep.same e h) (Repf.same e t)
end
def RepV (G : Ga) (F : Hp) (ad : List Addr) (v : V) : Va → Prop
  | .d x => Rep G F v x
  | .ref n => ∃ a, ad[n]? = some a ∧ v = .ref a
abbrev RepVs (G : Ga) (F : Hp) (ad : List Addr) : List V → List Va → Prop := Paired (RepV G F ad)
abbrev RepFs (G : Ga) (F : Hp) (ad : List Addr) : List (Str × V) → List (String × Va) → Prop := Paired fun p q => p.1 = Str.ofString q.1 ∧ RepV G F ad p.2 q.2
theorem Reps.va {G : Ga} {F : Hp} {ad : List Addr} : ∀ {vs : List V} {ds : List D}, Reps G F vs ds → RepVs G F ad vs (ds.map Va.d)
  | _, _, .nil => .nil
  | _, _, .cons h t => .cons h (Reps.va t)
theorem Reps.of {G : Ga} {F : Hp} {ad : List Addr} : ∀ {vs : List V} {ds : List D}, RepVs G F ad vs (ds.map Va.d) → Reps G F vs ds
  | [], [], _ => .nil
  | _ :: _, [], h => by cases h
  | [], _ :: _, h => by cases h
  | _ :: _, _ :: _, .cons h t => .cons h (Reps.of t)
theorem Repf.va {G : Ga} {F : Hp} {ad : List Addr} : ∀ {vs : List (Str × V)} {ds : List (String × D)}, Repf G F vs ds → RepFs G F ad vs (ds.map fun p => (p.1, Va.d p.2))
  | _, _, .nil => .nil
  | _, _, .cons h t => .cons ⟨rfl, h⟩ (Repf.va t)
theorem Repf.of {G : Ga} {F : Hp} {ad : List Addr} : ∀ {vs : List (Str × V)} {ds : List (String × D)}, RepFs G F ad vs (ds.map fun p => (p.1, Va.d p.2)) → Repf G F vs ds
  | [], [], _ => .nil
  | _ :: _, [], h => by cases h
  | [], _ :: _, h => by cases h
  | (_, _) :: _, (_, _) :: _, .cons ⟨e, h⟩ t => by
    cases e
    exact .cons h (Repf.of t)
theorem Reps.length {G : Ga} {F : Hp} : ∀ {vs : List V} {ds : List D}, Reps G F vs ds → vs.length = ds.length
  | _, _, .nil => rfl
  | _, _, .cons _ t => congrArg Nat.succ (Reps.length t)
theorem Reps.get {G : Ga} {F : Hp} : ∀ {vs : List V} {ds : List D} {i : Nat} {d : D}, Reps G F vs ds → ds[i]? = some d → ∃ v, vs[i]? = some v ∧ Rep G F v d
  | _, _, _, _, .nil, e => by simp at e
  | _, _, 0, _, .cons h _, e => by simp at e; subst e; exact ⟨_, rfl, h⟩
  | _, _, i + 1, d, .cons _ t, e => by
    obtain ⟨v, h1, h2⟩ := Reps.get (i := i) (d := d) t (by simpa using e)
    exact ⟨v, by simpa using h1, h2⟩
/-- what stands at a cell -/
def ObjR (G : Ga) (F : Hp) (ad : List Addr) (H : Hp) (a : Addr) : MO → Prop
  | .lst ds => ∃ vs, H a = some (.lst vs) ∧ RepVs G F ad vs ds
  | .obj c fs => c ∈ G.cs ∧ ∃ dx vfs, H a = some (.ins (G.ca c) dx vfs) ∧ RepFs G F ad vfs fs
  | .dct _ => False
theorem ObjR.there {G : Ga} {F : Hp} {ad : List Addr} {H : Hp} {a : Addr} {o : MO} (h : ObjR G F ad H a o) : ∃ u, H a = some u := by
  cases o with
  | lst ds => obtain ⟨vs, e, _⟩ := h; exact ⟨_, e⟩
  | obj c fs => obtain ⟨_, dx, vfs, e, _⟩ := h; exact ⟨_, e⟩
  | dct kvs => exact h.elim
theorem nodup_get {α : Type} : ∀ {l : List α} {k n : Nat} {a : α}, l.Nodup → l[k]? = some a → l[n]? = some a → k = n
  | [], _, _, _, _, h, _ => by simp at h
  | _ :: _, 0, 0, _, _, _, _ => rfl
  | x :: l, 0, n + 1, a, hd, h, h2 => by
    simp at h h2
    subst h
    exact absurd (List.mem_of_getElem? h2) (List.nodup_cons.mp hd).1
  | x :: l, k + 1, 0, a, hd, h, h2 => by
    simp at h h2
    subst h2
    exact absurd (List.mem_of_getElem? h) (List.nodup_cons.mp hd).1
  | x :: l, k + 1, n + 1, a, hd, h, h2 => by
    simp at h h2
    rw [nodup_get (List.nodup_cons.mp hd).2 h h2]
structure SR (G : Ga) (H F : Hp) (ad : List Addr) (st : Sto) : Prop where
  sub : Same F H
  len : ad.length = st.length
  nd : ad.Nodup
  dis : ∀ a ∈ ad, F a = none
  ob : ∀ (n : Nat) a o, ad[n]? = some a → st[n]? = some o → ObjR G F ad H a o
section
variable {G : Ga} {H F H' F' : Hp} {ad ad' : List Addr} {st : Sto}
theorem Ext.at_ (e : Ext H F ad H' F' ad') {n : Nat} {a : Addr} (h : ad[n]? = some a) : ad'[n]? = some a := by
  obtain ⟨zs, ez⟩ := e.pre
  rw [ez, List.getElem?_append_left (List.getElem?_eq_some_iff.mp h).1]
  exact h
theorem RepV.ext (e : Ext H F ad H' F' ad') {v : V} {d : Va} (h : RepV G F ad v d) : RepV G F' ad' v d := by
  cases d with
  | d x => exact Rep.same e.fz h
  | ref n =>
    obtain ⟨a, h1, h2⟩ := h
    exact ⟨a, e.at_ h1, h2⟩
theorem RepVs.ext (e : Ext H F ad H' F' ad') {vs : List V} {ds : List Va} (h : RepVs G F ad vs ds) : RepVs G F' ad' vs ds := Paired.mono (fun _ _ z => z.ext e) h
theorem RepFs.ext (e : Ext H F ad H' F' ad') {vs : List (Str × V)} {ds : List (String × Va)} (h : RepFs G F ad vs ds) : RepFs G F' ad' vs ds := Paired.mono (fun _ _ z => ⟨z.1, z.2.ext e⟩) h
theorem SR.there (S : SR G H F ad st) {a : Addr} (h : a ∈ ad) : ∃ u, H a = some u := by
  obtain ⟨n, e⟩ := List.mem_iff_getElem?.mp h
  have hn : n < st.length := by
    have := (List.getElem?_eq_some_iff.mp e).1
    rw [S.len] at this
    exact this
  exact (S.ob n a _ e (List.getElem?_eq_getElem hn)).there
theorem SR.get (S : SR G H F ad st) {n : Nat} {a : Addr} {o : MO} (h : ad[n]? = some a) (ho : st[n]? = some o) : ObjR G F ad H a o := S.ob n a o h ho
/-- a new frozen thing -/
theorem ext_new (S : SR G H F ad st) {p : Addr} {o : HO} (hp : H p = none) : Ext H F ad (upd H p o) (upd F p o) ad := by
  have fp : F p = none := S.sub.free hp
  refine ⟨⟨[], (List.append_nil _).symm⟩, fun b u h => ?_, fun b u _ h => ?_, fun b h => ?_, fun b u h => ?_, fun _ h => .inl h⟩
  · rw [upd_ne (ne_of_none h fp)]; exact h
  · rw [upd_ne (ne_of_none h hp)]; exact h
  · by_cases e : b = p
    · rw [e]; exact hp
    · rw [upd_ne e] at h; exact h
  · by_cases e : b = p
    · rw [e]; exact .inr hp
    · rw [upd_ne e] at h; exact .inl h
theorem ObjR.mono {a : Addr} {o : MO} (e : Ext H F ad H' F' ad') (eq : H' a = H a) (h : ObjR G F ad H a o) : ObjR G F' ad' H' a o := by
  cases o with
  | lst ds => obtain ⟨vs, z, r⟩ := h; exact ⟨vs, by rw [eq]; exact z, RepVs.ext e r⟩
  | obj c fs => obtain ⟨hc, dx, vfs, z, r⟩ := h; exact ⟨hc, dx, vfs, by rw [eq]; exact z, RepFs.ext e r⟩
  | dct kvs => exact h.elim
theorem SR.new (S : SR G H F ad st) {p : Addr} {o : HO} (hp : H p = none) : SR G (upd H p o) (upd F p o) ad st := by
  have E := ext_new S (o := o) hp
  have ne : ∀ a ∈ ad, a ≠ p := fun a h e => by
    obtain ⟨u, hu⟩ := S.there h
    rw [e, hp] at hu
    cases hu
  refine ⟨fun b u h => ?_, S.len, S.nd, fun a h => ?_, fun n a m h hm => ?_⟩
  · by_cases e : b = p
    · rw [e, upd_same] at h
      rw [e, upd_same]
      exact h
    · rw [upd_ne e] at h
      rw [upd_ne e]
      exact S.sub b u h
  · rw [upd_ne (ne a h)]
    exact S.dis a h
  · exact (S.ob n a m h hm).mono E (upd_ne (ne a (List.mem_of_getElem? h)))
/-- a new cell -/
theorem ext_cell (S : SR G H F ad st) {p : Addr} {o : HO} (hp : H p = none) : Ext H F ad (upd H p o) F (ad ++ [p]) := by
  refine ⟨⟨[p], rfl⟩, Same.refl _, fun b u _ h => ?_, fun b h => ?_, fun b u h => .inl h, fun b h => ?_⟩
  · rw [upd_ne (ne_of_none h hp)]; exact h
  · by_cases e : b = p
    · rw [e]; exact hp
    · rw [upd_ne e] at h; exact h
  · rcases List.mem_append.mp h with h | h
    · exact .inl h
    · have : b = p := by simpa using h
      rw [this]
      exact .inr hp
theorem SR.cell (S : SR G H F ad st) {p : Addr} {o : HO} {m : MO} (hp : H p = none) (hm : ObjR G F (ad ++ [p]) (upd H p o) p m) : SR G (upd H p o) F (ad ++ [p]) (st ++ [m]) := by
  have E := ext_cell S (o := o) hp
  have ne : ∀ a ∈ ad, a ≠ p := fun a h e => by
    obtain ⟨u, hu⟩ := S.there h
    rw [e, hp] at hu
    cases hu
  have fp : F p = none := S.sub.free hp
  refine ⟨fun b u h => ?_, by rw [List.length_append, List.length_append, S.len]; rfl, ?_, fun a h => ?_, fun n a u h hu => ?_⟩
  · rw [upd_ne (ne_of_none h fp)]
    exact S.sub b u h
  · rw [List.nodup_append]
    refine ⟨S.nd, by simp, fun a ha b hb => ?_⟩
    have : b = p := by simpa using hb
    rw [this]
    exact ne a ha
  · rcases List.mem_append.mp h with h | h
    · exact S.dis a h
    · have : a = p := by simpa using h
      rw [this]; exact fp
  · by_cases hn : n < ad.length
    · rw [List.getElem?_append_left hn] at h
      rw [List.getElem?_append_left (by rw [← S.len]; exact hn)] at hu
      exact (S.ob n a u h hu).mono E (upd_ne (ne a (List.mem_of_getElem? h)))
    · have hl : n < (ad ++ [p]).length := (List.getElem?_eq_some_iff.mp h).1
      have e : n = ad.length := by
        rw [List.length_append] at hl
        simp at hl
        omega
      subst e
      rw [List.getElem?_append_right (Nat.le_refl _), Nat.sub_self] at h
      rw [S.len, List.getElem?_append_right (Nat.le_refl _), Nat.sub_self] at hu
      have e1 : p = a := by simpa using h
      have e2 : m = u := by simpa using hu
      rw [← e1, ← e2]
      exact hm
/-- a cell is changed -/
theorem ext_mut {n : Nat} {a : Addr} {o : HO} (S : SR G H F ad st) (h : ad[n]? = some a) : Ext H F ad (upd H a o) F ad := by
  refine ⟨⟨[], (List.append_nil _).symm⟩, Same.refl _, fun b u hb h1 => ?_, fun b hb => ?_, fun b u h => .inl h, fun b h => .inl h⟩
  · rw [upd_ne (fun e => hb (by rw [e]; exact List.mem_of_getElem? h))]
    exact h1
  · by_cases e : b = a
    · rw [e, upd_same] at hb; cases hb
    · rw [upd_ne e] at hb; exact hb
theorem SR.mut {n : Nat} {a : Addr} {o : HO} {m : MO} (S : SR G H F ad st) (h : ad[n]? = some a) (hm : ObjR G F ad (upd H a o) a m) : SR G (upd H a o) F ad (st.set n m) := by
  have E := ext_mut (o := o) S h
  refine ⟨fun b u hb => ?_, by rw [List.length_set, S.len], S.nd, S.dis, fun k b u hb hu => ?_⟩
  · have ne : b ≠ a := fun e => by
      have := S.dis a (List.mem_of_getElem? h)
      rw [e, this] at hb
      cases hb
    rw [upd_ne ne]
    exact S.sub b u hb
  · by_cases hk : k = n
    · subst hk
      have e1 : a = b := by rw [h] at hb; exact Option.some.inj hb
      have hlt : k < st.length := by rw [← S.len]; exact (List.getElem?_eq_some_iff.mp h).1
      rw [List.getElem?_set_self hlt] at hu
      have e2 : m = u := Option.some.inj hu
      rw [← e1, ← e2]
      exact hm
    · rw [List.getElem?_set_ne (fun e => hk e.symm)] at hu
      have ne : b ≠ a := fun e => by
        rw [e] at hb
        exact hk (nodup_get S.nd hb h)
      exact (S.ob k b u hb hu).mono E (upd_ne ne)
end
/-! slots -/
structure RelE (G : Ga) (F : Hp) (ad : List Addr) (σ : L2.St) (ρ : Ev) : Prop where
  len : σ.length = ρ.length
  at_ : ∀ (i : Nat) d, ρ[i]? = some (some d) → ∃ v, σ[i]? = some (some v) ∧ RepV G F ad v d
  j : G.jv F ad σ
section
variable {G : Ga} {H F H' F' : Hp} {ad ad' : List Addr} {st : Sto} {σ : L2.St} {ρ : Ev}
theorem RelE.ext (e : Ext H F ad H' F' ad') (h : RelE G F ad σ ρ) : RelE G F' ad' σ ρ := ⟨h.len, fun i d z => by
  obtain ⟨v, h1, h2⟩ := h.at_ i d z
  exact ⟨v, h1, h2.ext e⟩, G.jm e h.j⟩
theorem RelE.set {i : Nat} {v : V} {d : Va} (hs : G.Stb) (h : RelE G F ad σ ρ) (r : RepV G F ad v d) : RelE G F ad (σ.set i (some v)) (ρ.set i (some d)) := by
  refine ⟨by rw [List.length_set, List.length_set, h.len], fun j u e => ?_, hs _ _ _ _ _ h.j⟩
  by_cases hj : i = j
  · subst hj
    have hl : i < ρ.length := by
      have := (List.getElem?_eq_some_iff.mp e).1
      rw [List.length_set] at this
      exact this
    rw [List.getElem?_set_self hl] at e
    have : d = u := by simpa using e
    rw [← this]
    exact ⟨v, List.getElem?_set_self (by rw [h.len]; exact hl), r⟩
  · rw [List.getElem?_set_ne hj] at e
    obtain ⟨v', h1, h2⟩ := h.at_ j u e
    exact ⟨v', by rw [List.getElem?_set_ne hj]; exact h1, h2⟩
end
/-! what is wanted behind -/
def ErrR (G : Ga) (F : Hp) (ad : List Addr) (c : String) (fs : List (String × Va)) (cls : Value) (d : Option Addr) : Prop :=
  c ∈ G.xs ∧ cls = .ref (G.ca c) ∧ ((fs = [] ∧ d = none) ∨ ∃ dx vfs, d = some dx ∧ F dx = some (.xd vfs) ∧ RepFs G F ad vfs fs)
def Po {α : Type} (G : Ga) (W : Value → Option Addr → Hp → Prop) (H F : Hp) (ad : List Addr) (P : α → Sto → Hp → Hp → List Addr → Prop) : Res α → Prop
  | .ok a st => ∀ H' F' ad', Ext H F ad H' F' ad' → SR G H' F' ad' st → P a st H' F' ad'
  | .er c fs st => ∀ H' F' ad' cls d, Ext H F ad H' F' ad' → SR G H' F' ad' st → ErrR G F' ad' c fs cls d → W cls d H'
  | .bad => False
theorem Po.from {α : Type} {G : Ga} {W : Value → Option Addr → Hp → Prop} {H F H1 F1 : Hp} {ad ad1 : List Addr} {P : α → Sto → Hp → Hp → List Addr → Prop} {r : Res α} (e : Ext H F ad H1 F1 ad1) (h : Po G W H F ad P r) : Po G W H1 F1 ad1 P r := by
  cases r with
  | ok a st => exact fun H' F' ad' e' S => h H' F' ad' (e.trans e') S
  | er c fs st => exact fun H' F' ad' cls d e' S z => h H' F' ad' cls d (e.trans e') S z
  | bad => exact h
theorem Po.bind {α β : Type} {G : Ga} {W : Value → Option Addr → Hp → Prop} {H F : Hp} {ad : List Addr} {P : β → Sto → Hp → Hp → List Addr → Prop} {r : Res α} {k : α → Sto → Res β} (h : Po G W H F ad P (r.bind k)) :
    Po G W H F ad (fun a st H' F' ad' => Po G W H' F' ad' P (k a st)) r := by
  cases r with
  | ok a st => exact fun H' F' ad' e _ => Po.from e h
  | er c fs st => exact h
  | bad => exact h
def PoS (G : Ga) (W : L2.WX) (H F : Hp) (ad : List Addr) (D : Ends) : Out → Prop
  | .nx ρ st => ∀ H' F' ad' σ', Ext H F ad H' F' ad' → SR G H' F' ad' st → RelE G F' ad' σ' ρ → D.nx σ' H'
  | .rt d st => ∀ H' F' ad' v, Ext H F ad H' F' ad' → SR G H' F' ad' st → RepV G F' ad' v d → D.rt v H'
  | .bk ρ st => ∀ H' F' ad' σ', Ext H F ad H' F' ad' → SR G H' F' ad' st → RelE G F' ad' σ' ρ → D.bk σ' H'
  | .ct ρ st => ∀ H' F' ad' σ', Ext H F ad H' F' ad' → SR G H' F' ad' st → RelE G F' ad' σ' ρ → D.ct σ' H'
  | .er c fs ρ st => ∀ H' F' ad' σ' cls d, Ext H F ad H' F' ad' → SR G H' F' ad' st → RelE G F' ad' σ' ρ → ErrR G F' ad' c fs cls d → W cls d σ' H'
  | .bad => False
theorem PoS.from {G : Ga} {W : L2.WX} {H F H1 F1 : Hp} {ad ad1 : List Addr} {D : Ends} {o : Out} (e : Ext H F ad H1 F1 ad1) (h : PoS G W H F ad D o) : PoS G W H1 F1 ad1 D o := by
  cases o with
  | nx ρ st => exact fun H' F' ad' σ' e' => h H' F' ad' σ' (e.trans e')
  | rt d st => exact fun H' F' ad' σ' e' => h H' F' ad' σ' (e.trans e')
  | bk ρ st => exact fun H' F' ad' σ' e' => h H' F' ad' σ' (e.trans e')
  | ct ρ st => exact fun H' F' ad' σ' e' => h H' F' ad' σ' (e.trans e')
  | er c fs ρ st => exact fun H' F' ad' σ' cls d e' => h H' F' ad' σ' cls d (e.trans e')
  | bad => exact h
/-! readings beside mirrors -/
def SimE (G : Ga) (W : L2.WX) (t : TE) (m : ME) : Prop := ∀ (σ : L2.St) (ρ : Ev) (H F : Hp) (ad : List Addr) (st : Sto) (Q : VK), RelE G F ad σ ρ → SR G H F ad st →
  Po G (fun c d H' => W c d σ H') H F ad (fun d _ H' F' ad' => ∀ v, RepV G F' ad' v d → Q v H') (m ρ st) → t σ H Q
def SimT (G : Ga) (W : L2.WX) (t : TT) (m : MT) : Prop := ∀ (σ : L2.St) (ρ : Ev) (H F : Hp) (ad : List Addr) (st : Sto) (Q : Bool → Hp → Prop), RelE G F ad σ ρ → SR G H F ad st →
  Po G (fun c d H' => W c d σ H') H F ad (fun b _ H' _ _ => Q b H') (m ρ st) → t σ H Q
def SimA (G : Ga) (W : L2.WX) (t : TA) (m : MA) : Prop := ∀ (σ : L2.St) (ρ : Ev) (H F : Hp) (ad : List Addr) (st : Sto) (Q : List V → Hp → Prop), RelE G F ad σ ρ → SR G H F ad st →
  Po G (fun c d H' => W c d σ H') H F ad (fun ds _ H' F' ad' => ∀ vs, RepVs G F' ad' vs ds → Q vs H') (m ρ st) → t σ H Q
def SimS (G : Ga) (W : L2.WX) (t : TS) (m : MS) : Prop := ∀ (σ : L2.St) (ρ : Ev) (H F : Hp) (ad : List Addr) (st : Sto) (D : Ends), RelE G F ad σ ρ → SR G H F ad st →
  PoS G W H F ad D (m ρ st) → t D σ H
def DE (G : Ga) (W : L2.WX) (X : Cx) (e : Expr) (m : ME) : Prop := ∃ t, PE X e t ∧ SimE G W t m
def DT (G : Ga) (W : L2.WX) (X : Cx) (e : Expr) (m : MT) : Prop := ∃ t, PT X e t ∧ SimT G W t m
def DA (G : Ga) (W : L2.WX) (X : Cx) (es : List Expr) (m : MA) : Prop := ∃ t, PA X es t ∧ SimA G W t m
def DS (G : Ga) (W : L2.WX) (X : Cx) (s : Stmt) (m : MS) : Prop := ∃ t, PS X s t ∧ SimS G W t m
def DSs (G : Ga) (W : L2.WX) (X : Cx) (s : List Stmt) (m : MS) : Prop := ∃ t, PSs X s t ∧ SimS G W t m

/-! ### expressions -/
section
variable {G : Ga} {W : L2.WX} {X : Cx}
theorem fin_same {α : Type} {Wv : Value → Option Addr → Hp → Prop} {H F : Hp} {ad : List Addr} {st : Sto} {a : α} {P : α → Sto → Hp → Hp → List Addr → Prop} (S : SR G H F ad st) (h : Po G Wv H F ad P (.ok a st)) : P a st H F ad := h _ _ _ Ext.refl S
abbrev QV (G : Ga) (Q : VK) : Va → Sto → Hp → Hp → List Addr → Prop := fun d _ H' F' ad' => ∀ v, RepV G F' ad' v d → Q v H'
theorem fin_new {Wv : Value → Option Addr → Hp → Prop} {H F : Hp} {ad : List Addr} {st : Sto} {x : D} {o : HO} {p : Addr} {Q : VK} (S : SR G H F ad st) (hp : H p = none) (r : Rep G (upd F p o) (.ref p) x) (h : Po G Wv H F ad (QV G Q) (.ok (.d x) st)) : Q (.ref p) (upd H p o) :=
  h _ _ _ (ext_new S hp) (S.new hp) _ r
/-! leaves -/
def strip : Va → Va
  | .d (.idn x _) => .d x
  | v => v
def mVar (i : Nat) : ME := fun ρ st => match ρ[i]? with
  | some (some d) => .ok (strip d) st
  | _ => .bad
/-- with its identity, where it is known -/
def mVarI (i : Nat) : ME := fun ρ st => match ρ[i]? with
  | some (some d) => .ok d st
  | _ => .bad
theorem strip_ok {F : Hp} {ad : List Addr} {v : V} {d : Va} (h : RepV G F ad v d) : RepV G F ad v (strip d) := by
  cases d with
  | ref n => exact h
  | d x => cases h with
    | idn h => exact h
    | non => exact .non
    | bl b => exact .bl b
    | int i => exact .int i
    | str x => exact .str x
    | lst h t => exact .lst h t
    | tup h t => exact .tup h t
    | obj hc h t => exact .obj hc h t
    | cls c hc => exact .cls c hc
    | ty n => exact .ty n
    | lck h => exact .lck h
def mC (x : D) : ME := fun _ st => .ok (.d x) st
theorem sim_var {i : Nat} : SimE G W (tVar i) (mVar i) := by
  intro σ ρ H F ad st Q R S h
  unfold mVar at h
  split at h
  · rename_i d e
    obtain ⟨v, h1, h2⟩ := R.at_ i d e
    exact ⟨v, h1, fin_same S h v (strip_ok h2)⟩
  · exact h.elim
theorem sim_varI {i : Nat} : SimE G W (tVar i) (mVarI i) := by
  intro σ ρ H F ad st Q R S h
  unfold mVarI at h
  split at h
  · rename_i d e
    obtain ⟨v, h1, h2⟩ := R.at_ i d e
    exact ⟨v, h1, fin_same S h v h2⟩
  · exact h.elim
theorem de_vI {e : Expr} {i : Nat} (h : PE X e (tVar i)) : DE G W X e (mVarI i) := ⟨_, h, sim_varI⟩
theorem de_v {e : Expr} {i : Nat} (h : PE X e (tVar i)) : DE G W X e (mVar i) := ⟨_, h, sim_var⟩
theorem sim_c {v : V} {x : D} (r : ∀ F, Rep G F v x) : SimE G W (tC v) (mC x) := fun σ ρ H F ad st Q R S h => fin_same S h v (r F)
theorem de_c {e : Expr} {v : V} {x : D} (h : PE X e (tC v)) (r : ∀ F, Rep G F v x) : DE G W X e (mC x) := ⟨_, h, sim_c r⟩
theorem de_int {i : Int} {j pos} : DE G W X (.Constant (.int i) j pos) (mC (.int i)) := de_c pe_int fun _ => .int i
theorem de_bl {b : Bool} {j pos} : DE G W X (.Constant (.bool b) j pos) (mC (.bl b)) := de_c pe_bl fun _ => .bl b
theorem de_non {j pos} : DE G W X (.Constant .none j pos) (mC .non) := de_c pe_non fun _ => .non
theorem de_str {x : Str} {j pos} : DE G W X (.Constant (.str x) j pos) (mC (.str x)) := de_c pe_str fun _ => .str x
/-! operators -/
abbrev O2 := Va → Va → Sto → Res Va
def SimR2 (G : Ga) (r : R2) (f : O2) : Prop := ∀ (Wv : Value → Option Addr → Hp → Prop) (x y : V) (dx dy : Va) (H F : Hp) (ad : List Addr) (st : Sto) (Q : VK), RepV G F ad x dx → RepV G F ad y dy → SR G H F ad st → Po G Wv H F ad (QV G Q) (f dx dy st) → r x y H Q
def mBin (f : O2) (a b : ME) : ME := fun ρ st => (a ρ st).bind fun x st => (b ρ st).bind fun y st => f x y st
theorem sim_op {r : R2} {f : O2} {ta tb : TE} {ma mb : ME} (hr : SimR2 G r f) (ha : SimE G W ta ma) (hb : SimE G W tb mb) : SimE G W (tOp r ta tb) (mBin f ma mb) := by
  intro σ ρ H F ad st Q R S h
  refine ha σ ρ H F ad st _ R S ?_
  have h1 := Po.bind h
  revert h1
  generalize ma ρ st = ra
  intro h1
  cases ra with
  | bad => exact h1
  | er c fs st1 => exact h1
  | ok x st1 =>
    intro H1 F1 ad1 e1 S1 v rv
    refine hb σ ρ H1 F1 ad1 st1 _ (R.ext e1) S1 ?_
    have h2 := Po.bind (h1 H1 F1 ad1 e1 S1)
    revert h2
    generalize mb ρ st1 = rb
    intro h2
    cases rb with
    | bad => exact h2
    | er c fs st2 => exact h2
    | ok y st2 =>
      intro H2 F2 ad2 e2 S2 w rw
      exact hr _ v w x y H2 F2 ad2 st2 Q (rv.ext e2) rw S2 (h2 H2 F2 ad2 e2 S2)
theorem de_op {op : Operator} {r : R2} {f : O2} {a b : Expr} {pos : Pos} {ma mb : ME} (ho : OpR X (binaryOp op) r) (hr : SimR2 G r f) (ha : DE G W X a ma) (hb : DE G W X b mb) : DE G W X (.BinOp a op b pos) (mBin f ma mb) := by
  obtain ⟨ta, pa, sa⟩ := ha
  obtain ⟨tb, pb, sb⟩ := hb
  exact ⟨_, pe_op ho pa pb, sim_op hr sa sb⟩
theorem de_cmp {op : CmpOp} {r : R2} {f : O2} {a b : Expr} {pos : Pos} {ma mb : ME} (ho : OpR X (compareOp op) r) (hr : SimR2 G r f) (ha : DE G W X a ma) (hb : DE G W X b mb) (hm : behindInMarks op b = false) : DE G W X (.Compare a [op] [b] pos) (mBin f ma mb) := by
  obtain ⟨ta, pa, sa⟩ := ha
  obtain ⟨tb, pb, sb⟩ := hb
  exact ⟨_, pe_cmpR ho pa pb hm, sim_op hr sa sb⟩
/-- a value as a test, by its bool -/
def mTst (a : ME) : MT := fun ρ st => (a ρ st).bind fun x st => match x with
  | .d (.bl b) => .ok b st
  | _ => .bad
theorem sim_tst {ta : TE} {ma : ME} (ha : SimE G W ta ma) : SimT G W (tTest ta) (mTst ma) := by
  intro σ ρ H F ad st Q R S h
  refine ha σ ρ H F ad st _ R S ?_
  have h1 := Po.bind h
  revert h1
  generalize ma ρ st = ra
  intro h1
  cases ra with
  | bad => exact h1
  | er c fs st1 => exact h1
  | ok x st1 =>
    intro H1 F1 ad1 e1 S1 v rv
    have h2 := h1 H1 F1 ad1 e1 S1
    cases x with
    | ref n => exact h2.elim
    | d x =>
      cases x with
      | bl b =>
        cases rv
        exact ⟨b, rfl, fin_same S1 h2⟩
      | _ => exact h2.elim
theorem dt_cmp {op : CmpOp} {r : R2} {f : O2} {a b : Expr} {pos : Pos} {ma mb : ME} (ho : OpR X (compareOp op) r) (hr : SimR2 G r f) (ha : DE G W X a ma) (hb : DE G W X b mb) (hm : behindInMarks op b = false) : DT G W X (.Compare a [op] [b] pos) (mTst (mBin f ma mb)) := by
  obtain ⟨ta, pa, sa⟩ := ha
  obtain ⟨tb, pb, sb⟩ := hb
  exact ⟨_, pt_cmpR ho pa pb hm, sim_tst (sim_op hr sa sb)⟩
/-! ints -/
instance {i j : Int} : Decidable (CMulW i j) := inferInstanceAs (Decidable (i.natAbs.log2 + j.natAbs.log2 < 1000000))
def CDivX (_ j : Int) : Prop := j ≠ 0 ∧ j.natAbs.log2 < 9000
instance {i j : Int} : Decidable (CDivX i j) := inferInstanceAs (Decidable (_ ∧ _))
instance {i j : Int} : Decidable (CPow i j) := inferInstanceAs (Decidable (_ ∧ _ ∧ _))
theorem op_fdivX : OpR X (binaryOp .FloorDiv) (rI CDivX fun i j => .int (i.fdiv j)) := opI fun i j _ _ _ _ _ hc q => PyProof.Rows.floordiv_int hc.1 q (.inl (PyProof.noPylong_of_log2 hc.2))
def oII (f : Int → Int → D) : O2
  | .d (.int i), .d (.int j), st => .ok (.d (f i j)) st
  | _, _, _ => .bad
def oIC (C : Int → Int → Prop) [∀ i j, Decidable (C i j)] (f : Int → Int → D) : O2
  | .d (.int i), .d (.int j), st => if C i j then .ok (.d (f i j)) st else .bad
  | _, _, _ => .bad
theorem sim_II {g : Int → Int → V} {f : Int → Int → D} (r : ∀ F i j, Rep G F (g i j) (f i j)) : SimR2 G (rI0 g) (oII f) := by
  intro Wv x y dx dy H F ad st Q rx ry S h
  cases dx with
  | ref n => exact h.elim
  | d dx => cases dy with
    | ref n => cases dx <;> exact h.elim
    | d dy => cases dx with
      | int i => cases dy with
        | int j => cases rx; cases ry; exact ⟨i, j, rfl, rfl, fin_same S h _ (r F i j)⟩
        | _ => exact h.elim
      | _ => exact h.elim
theorem sim_IC {C : Int → Int → Prop} [∀ i j, Decidable (C i j)] {g : Int → Int → V} {f : Int → Int → D} (r : ∀ F i j, Rep G F (g i j) (f i j)) : SimR2 G (rI C g) (oIC C f) := by
  intro Wv x y dx dy H F ad st Q rx ry S h
  cases dx with
  | ref n => exact h.elim
  | d dx => cases dy with
    | ref n => cases dx <;> exact h.elim
    | d dy => cases dx with
      | int i => cases dy with
        | int j =>
          cases rx; cases ry
          have h : Po G Wv H F ad (QV G Q) (if C i j then .ok (.d (f i j)) st else .bad) := h
          split at h
          · rename_i hc
            exact ⟨i, j, rfl, rfl, hc, fin_same S h _ (r F i j)⟩
          · exact h.elim
        | _ => exact h.elim
      | _ => exact h.elim
/-- one of two rules, by what is there -/
theorem SimR2.or {r r' : R2} {f f' g : O2} (h : SimR2 G r f) (h' : SimR2 G r' f') (hg : ∀ x y st, g x y st = f x y st ∨ g x y st = f' x y st) : SimR2 G (fun x y H Q => r x y H Q ∨ r' x y H Q) g := by
  intro Wv x y dx dy H F ad st Q rx ry S z
  rcases hg dx dy st with e | e
  · rw [e] at z
    exact .inl (h Wv x y dx dy H F ad st Q rx ry S z)
  · rw [e] at z
    exact .inr (h' Wv x y dx dy H F ad st Q rx ry S z)
def oSub : O2 := oII fun i j => .int (i - j)
def oLt : O2 := oII fun i j => .bl (decide (i < j))
def oLe : O2 := oII fun i j => .bl (decide (i ≤ j))
def oGt : O2 := oII fun i j => .bl (decide (j < i))
def oGe : O2 := oII fun i j => .bl (decide (j ≤ i))
def oFdiv : O2 := oIC CDivX fun i j => .int (i.fdiv j)
def oMod : O2 := oIC (fun _ j => j ≠ 0) fun i j => .int (i.fmod j)
def oPow : O2 := oIC CPow fun i j => .int (i ^ j.toNat)
theorem sim_sub : SimR2 G (rI0 fun i j => .int (i - j)) oSub := sim_II fun _ _ _ => .int _
theorem sim_lt : SimR2 G (rI0 fun i j => .bl (decide (i < j))) oLt := sim_II fun _ _ _ => .bl _
theorem sim_le : SimR2 G (rI0 fun i j => .bl (decide (i ≤ j))) oLe := sim_II fun _ _ _ => .bl _
theorem sim_gt : SimR2 G (rI0 fun i j => .bl (decide (j < i))) oGt := sim_II fun _ _ _ => .bl _
theorem sim_ge : SimR2 G (rI0 fun i j => .bl (decide (j ≤ i))) oGe := sim_II fun _ _ _ => .bl _
theorem sim_fdiv : SimR2 G (rI CDivX fun i j => .int (i.fdiv j)) oFdiv := sim_IC fun _ _ _ => .int _
theorem sim_mod : SimR2 G (rI (fun _ j => j ≠ 0) fun i j => .int (i.fmod j)) oMod := sim_IC fun _ _ _ => .int _
theorem sim_pow : SimR2 G (rI CPow fun i j => .int (i ^ j.toNat)) oPow := sim_IC fun _ _ _ => .int _
/-! + of ints, texts, lists, tuples -/
abbrev cap : Nat := 1000000
theorem cap_ok {n : Nat} (h : n ≤ cap) : n ≤ sizeLine := Nat.le_trans h (by decide)
def oAdd : O2
  | .d (.int i), .d (.int j), st => .ok (.d (.int (i + j))) st
  | .d (.str a), .d (.str b), st => if a.length + b.length ≤ cap then .ok (.d (.str (a ++ b))) st else .bad
  | .d (.lst a), .d (.lst b), st => if a.length + b.length ≤ cap then .ok (.d (.lst (a ++ b))) st else .bad
  | .d (.tup a), .d (.tup b), st => if a.length + b.length ≤ cap then .ok (.d (.tup (a ++ b))) st else .bad
  | _, _, _ => .bad
def rStrAdd : R2 := fun x y H Q => ∃ i j, x = .str i ∧ y = .str j ∧ i.length + j.length ≤ sizeLine ∧ Q (.str (i ++ j)) H
def rAdds (K : PySem.W.Frag) : R2 := fun x y H Q => (rI0 (fun i j => .int (i + j)) x y H Q) ∨ rStrAdd x y H Q ∨ rCat x y H Q ∨ rCatA K x y H Q
theorem op_adds (hK : X.K = G.K) : OpR X (binaryOp .Add) (rAdds G.K) := by
  rw [← hK]
  exact op_add.or (op_add_str.or (op_cat.or op_catA))
theorem Reps.append {F : Hp} : ∀ {vs ws : List V} {ds es : List D}, Reps G F vs ds → Reps G F ws es → Reps G F (vs ++ ws) (ds ++ es)
  | _, _, _, _, .nil, b => b
  | _, _, _, _, .cons h t, b => .cons h (Reps.append t b)
theorem sim_add : SimR2 G (rAdds G.K) oAdd := by
  intro Wv x y dx dy H F ad st Q rx ry S h
  cases dx with
  | ref n => exact h.elim
  | d dx => cases dy with
    | ref n => cases dx <;> exact h.elim
    | d dy => cases dx with
      | int i => cases dy with
        | int j => cases rx; cases ry; exact .inl ⟨i, j, rfl, rfl, fin_same S h _ (.int _)⟩
        | _ => exact h.elim
      | str a => cases dy with
        | str b =>
          cases rx; cases ry
          have h : Po G Wv H F ad (QV G Q) (if a.length + b.length ≤ cap then .ok (.d (.str (a ++ b))) st else .bad) := h
          split at h
          · rename_i hc
            exact .inr (.inl ⟨a, b, rfl, rfl, cap_ok hc, fin_same S h _ (.str _)⟩)
          · exact h.elim
        | _ => exact h.elim
      | lst a => cases dy with
        | lst b =>
          have h : Po G Wv H F ad (QV G Q) (if a.length + b.length ≤ cap then .ok (.d (.lst (a ++ b))) st else .bad) := h
          split at h
          · rename_i hc
            cases rx with
            | @lst p vs _ h1 t1 => cases ry with
              | @lst q ws _ h2 t2 =>
                refine .inr (.inr (.inl ⟨p, q, vs, ws, rfl, rfl, S.sub _ _ h1, S.sub _ _ h2, ?_, fun z hz => ?_⟩))
                · rw [t1.length, t2.length]; exact cap_ok hc
                · exact fin_new S hz (.lst upd_same ((t1.append t2).same (ext_new S hz).fz)) h
          · exact h.elim
        | _ => exact h.elim
      | tup a => cases dy with
        | tup b =>
          have h : Po G Wv H F ad (QV G Q) (if a.length + b.length ≤ cap then .ok (.d (.tup (a ++ b))) st else .bad) := h
          split at h
          · rename_i hc
            cases rx with
            | @tup p vs _ h1 t1 => cases ry with
              | @tup q ws _ h2 t2 =>
                refine .inr (.inr (.inr ⟨p, q, vs, ws, rfl, rfl, sqT_same S.sub h1, sqT_same S.sub h2, ?_, fun e => ?_, fun e1 e2 => ?_, fun _ _ z hz => ?_⟩))
                · rw [t1.length, t2.length]; exact cap_ok hc
                · subst e
                  cases t1
                  exact fin_same S h _ (.tup h2 t2)
                · subst e2
                  cases t2
                  rw [List.append_nil] at h
                  exact fin_same S h _ (.tup h1 t1)
                · exact fin_new S hz (.tup (SqT.of upd_same) ((t1.append t2).same (ext_new S hz).fz)) h
          · exact h.elim
        | _ => exact h.elim
      | _ => exact h.elim
/-! * of ints; of a list and an int -/
def oMul : O2
  | .d (.int i), .d (.int j), st => if CMulW i j then .ok (.d (.int (i * j))) st else .bad
  | .d (.lst a), .d (.int j), st => if j ≤ 1000000 ∧ -1000000 ≤ j ∧ a.length * j.toNat ≤ cap then .ok (.d (.lst (List.replicate j.toNat a).flatten)) st else .bad
  | _, _, _ => .bad
def rMuls : R2 := fun x y H Q => rI CMulW (fun i j => .int (i * j)) x y H Q ∨ rRep x y H Q
theorem op_muls : OpR X (binaryOp .Mult) rMuls := op_mulW.or op_rep
theorem Reps.rep {F : Hp} {vs : List V} {ds : List D} (h : Reps G F vs ds) : ∀ k : Nat, Reps G F (List.replicate k vs).flatten (List.replicate k ds).flatten
  | 0 => .nil
  | k + 1 => by
    rw [List.replicate_succ, List.replicate_succ, List.flatten_cons, List.flatten_cons]
    exact h.append (h.rep k)
theorem sim_mul : SimR2 G rMuls oMul := by
  intro Wv x y dx dy H F ad st Q rx ry S h
  cases dx with
  | ref n => exact h.elim
  | d dx => cases dy with
    | ref n => cases dx <;> exact h.elim
    | d dy => cases dx with
      | int i => cases dy with
        | int j =>
          cases rx; cases ry
          have h : Po G Wv H F ad (QV G Q) (if CMulW i j then .ok (.d (.int (i * j))) st else .bad) := h
          split at h
          · rename_i hc
            exact .inl ⟨i, j, rfl, rfl, hc, fin_same S h _ (.int _)⟩
          · exact h.elim
        | _ => exact h.elim
      | lst a => cases dy with
        | int j =>
          have h : Po G Wv H F ad (QV G Q) (if j ≤ 1000000 ∧ -1000000 ≤ j ∧ a.length * j.toNat ≤ cap then .ok (.d (.lst (List.replicate j.toNat a).flatten)) st else .bad) := h
          split at h
          · rename_i hc
            cases rx with
            | @lst p vs _ h1 t1 =>
              cases ry
              refine .inr ⟨p, j, vs, rfl, rfl, S.sub _ _ h1, by omega, by omega, ?_, fun z hz => ?_⟩
              · rw [t1.length]; exact cap_ok hc.2.2
              · exact fin_new S hz (.lst upd_same ((t1.rep j.toNat).same (ext_new S hz).fz)) h
          · exact h.elim
        | _ => exact h.elim
      | _ => exact h.elim
/-! unary -/
abbrev O1 := Va → Sto → Res Va
def SimR1 (G : Ga) (r : V → Hp → VK → Prop) (f : O1) : Prop := ∀ (Wv : Value → Option Addr → Hp → Prop) (x : V) (dx : Va) (H F : Hp) (ad : List Addr) (st : Sto) (Q : VK), RepV G F ad x dx → SR G H F ad st → Po G Wv H F ad (QV G Q) (f dx st) → r x H Q
def mUn (f : O1) (a : ME) : ME := fun ρ st => (a ρ st).bind fun x st => f x st
theorem sim_un {r : V → Hp → VK → Prop} {f : O1} {ta : TE} {ma : ME} (hr : SimR1 G r f) (ha : SimE G W ta ma) : SimE G W (tUn r ta) (mUn f ma) := by
  intro σ ρ H F ad st Q R S h
  refine ha σ ρ H F ad st _ R S ?_
  have h1 := Po.bind h
  revert h1
  generalize ma ρ st = ra
  intro h1
  cases ra with
  | bad => exact h1
  | er c fs st1 => exact h1
  | ok x st1 =>
    intro H1 F1 ad1 e1 S1 v rv
    exact hr _ v x H1 F1 ad1 st1 Q rv S1 (h1 H1 F1 ad1 e1 S1)
def oNeg : O1
  | .d (.int i), st => .ok (.d (.int (-i))) st
  | _, _ => .bad
theorem sim_neg : SimR1 G (rU fun i => .int (-i)) oNeg := by
  intro Wv x dx H F ad st Q rx S h
  cases dx with
  | ref n => exact h.elim
  | d dx => cases dx with
    | int i => cases rx; exact ⟨i, rfl, fin_same S h _ (.int _)⟩
    | _ => exact h.elim
theorem de_neg {a : Expr} {pos : Pos} {ma : ME} (ha : DE G W X a ma) : DE G W X (.UnaryOp .USub a pos) (mUn oNeg ma) := by
  obtain ⟨ta, pa, sa⟩ := ha
  exact ⟨_, pe_un un_neg pa, sim_un sim_neg sa⟩
def oNot : O1
  | .d (.bl b), st => .ok (.d (.bl (!b))) st
  | _, _ => .bad
theorem de_not {a : Expr} {pos : Pos} {ma : ME} (ha : DE G W X a ma) : DE G W X (.UnaryOp .Not a pos) (mUn oNot ma) := by
  obtain ⟨ta, pa, sa⟩ := ha
  refine ⟨_, pe_not pa, ?_⟩
  intro σ ρ H F ad st Q R S h
  refine sa σ ρ H F ad st _ R S ?_
  have h1 := Po.bind h
  revert h1
  generalize ma ρ st = ra
  intro h1
  cases ra with
  | bad => exact h1
  | er c fs st1 => exact h1
  | ok x st1 =>
    intro H1 F1 ad1 e1 S1 v rv
    have h2 := h1 H1 F1 ad1 e1 S1
    cases x with
    | ref n => exact h2.elim
    | d x => cases x with
      | bl b => cases rv; exact ⟨b, rfl, fin_same S1 h2 _ (.bl _)⟩
      | _ => exact h2.elim
/-! and, or, not, as values and as tests -/
def mAnd (a b : ME) : ME := fun ρ st => (a ρ st).bind fun x st => match x with
  | .d (.bl true) => b ρ st
  | .d (.bl false) => .ok (.d (.bl false)) st
  | _ => .bad
def mOr (a b : ME) : ME := fun ρ st => (a ρ st).bind fun x st => match x with
  | .d (.bl true) => .ok (.d (.bl true)) st
  | .d (.bl false) => b ρ st
  | _ => .bad
def mAndT (a b : MT) : MT := fun ρ st => (a ρ st).bind fun x st => if x then b ρ st else .ok false st
def mOrT (a b : MT) : MT := fun ρ st => (a ρ st).bind fun x st => if x then .ok true st else b ρ st
def mNotT (a : MT) : MT := fun ρ st => (a ρ st).bind fun x st => .ok (!x) st
def mIf (t : MT) (a b : ME) : ME := fun ρ st => (t ρ st).bind fun x st => if x then a ρ st else b ρ st
theorem simT_bind {tt : TT} {mt : MT} {β : Type} {P : β → Sto → Hp → Hp → List Addr → Prop} (ht : SimT G W tt mt) {k : Bool → Sto → Res β} {σ : L2.St} {ρ : Ev} {H F : Hp} {ad : List Addr} {st : Sto} {Q : Bool → Hp → Prop} (R : RelE G F ad σ ρ) (S : SR G H F ad st)
    (h : Po G (fun c d H' => W c d σ H') H F ad P ((mt ρ st).bind k)) (q : ∀ b st1 H1 F1 ad1, RelE G F1 ad1 σ ρ → SR G H1 F1 ad1 st1 → Po G (fun c d H' => W c d σ H') H1 F1 ad1 P (k b st1) → Q b H1) : tt σ H Q := by
  refine ht σ ρ H F ad st _ R S ?_
  have h1 := Po.bind h
  revert h1
  generalize mt ρ st = ra
  intro h1
  cases ra with
  | bad => exact h1
  | er c fs st1 => exact h1
  | ok x st1 => exact fun H1 F1 ad1 e1 S1 => q x st1 H1 F1 ad1 (R.ext e1) S1 (h1 H1 F1 ad1 e1 S1)
theorem simE_bind {tt : TE} {mt : ME} {β : Type} {P : β → Sto → Hp → Hp → List Addr → Prop} (ht : SimE G W tt mt) {k : Va → Sto → Res β} {σ : L2.St} {ρ : Ev} {H F : Hp} {ad : List Addr} {st : Sto} {Q : VK} (R : RelE G F ad σ ρ) (S : SR G H F ad st)
    (h : Po G (fun c d H' => W c d σ H') H F ad P ((mt ρ st).bind k)) (q : ∀ x v st1 H1 F1 ad1, Ext H F ad H1 F1 ad1 → RelE G F1 ad1 σ ρ → SR G H1 F1 ad1 st1 → RepV G F1 ad1 v x → Po G (fun c d H' => W c d σ H') H1 F1 ad1 P (k x st1) → Q v H1) : tt σ H Q := by
  refine ht σ ρ H F ad st _ R S ?_
  have h1 := Po.bind h
  revert h1
  generalize mt ρ st = ra
  intro h1
  cases ra with
  | bad => exact h1
  | er c fs st1 => exact h1
  | ok x st1 => exact fun H1 F1 ad1 e1 S1 v rv => q x v st1 H1 F1 ad1 e1 (R.ext e1) S1 rv (h1 H1 F1 ad1 e1 S1)
theorem simA_bind {tt : TA} {mt : MA} {β : Type} {P : β → Sto → Hp → Hp → List Addr → Prop} (ht : SimA G W tt mt) {k : List Va → Sto → Res β} {σ : L2.St} {ρ : Ev} {H F : Hp} {ad : List Addr} {st : Sto} {Q : List V → Hp → Prop} (R : RelE G F ad σ ρ) (S : SR G H F ad st)
    (h : Po G (fun c d H' => W c d σ H') H F ad P ((mt ρ st).bind k)) (q : ∀ x v st1 H1 F1 ad1, Ext H F ad H1 F1 ad1 → RelE G F1 ad1 σ ρ → SR G H1 F1 ad1 st1 → RepVs G F1 ad1 v x → Po G (fun c d H' => W c d σ H') H1 F1 ad1 P (k x st1) → Q v H1) : tt σ H Q := by
  refine ht σ ρ H F ad st _ R S ?_
  have h1 := Po.bind h
  revert h1
  generalize mt ρ st = ra
  intro h1
  cases ra with
  | bad => exact h1
  | er c fs st1 => exact h1
  | ok x st1 => exact fun H1 F1 ad1 e1 S1 v rv => q x v st1 H1 F1 ad1 e1 (R.ext e1) S1 rv (h1 H1 F1 ad1 e1 S1)
theorem sim_and {ta tb : TE} {ma mb : ME} (ha : SimE G W ta ma) (hb : SimE G W tb mb) : SimE G W (tAndV ta tb) (mAnd ma mb) := by
  intro σ ρ H F ad st Q R S h
  refine simE_bind ha R S h fun x v st1 H1 F1 ad1 _ R1 S1 rv h1 => ?_
  cases x with
  | ref n => exact h1.elim
  | d x => cases x with
    | bl b =>
      cases rv
      refine ⟨b, rfl, ?_⟩
      cases b with
      | true => rw [if_pos rfl]; exact hb σ ρ H1 F1 ad1 st1 Q R1 S1 h1
      | false => rw [if_neg Bool.false_ne_true]; exact fin_same S1 h1 _ (.bl _)
    | _ => exact h1.elim
theorem sim_or {ta tb : TE} {ma mb : ME} (ha : SimE G W ta ma) (hb : SimE G W tb mb) : SimE G W (tOrV ta tb) (mOr ma mb) := by
  intro σ ρ H F ad st Q R S h
  refine simE_bind ha R S h fun x v st1 H1 F1 ad1 _ R1 S1 rv h1 => ?_
  cases x with
  | ref n => exact h1.elim
  | d x => cases x with
    | bl b =>
      cases rv
      refine ⟨b, rfl, ?_⟩
      cases b with
      | true => rw [if_pos rfl]; exact fin_same S1 h1 _ (.bl _)
      | false => rw [if_neg Bool.false_ne_true]; exact hb σ ρ H1 F1 ad1 st1 Q R1 S1 h1
    | _ => exact h1.elim
theorem sim_andT {ta tb : TT} {ma mb : MT} (ha : SimT G W ta ma) (hb : SimT G W tb mb) : SimT G W (tAnd ta tb) (mAndT ma mb) := by
  intro σ ρ H F ad st Q R S h
  refine simT_bind ha R S h fun b st1 H1 F1 ad1 R1 S1 h1 => ?_
  cases b with
  | true => rw [if_pos rfl] at h1 ⊢; exact hb σ ρ H1 F1 ad1 st1 Q R1 S1 h1
  | false => rw [if_neg Bool.false_ne_true] at h1 ⊢; exact fin_same S1 h1
theorem sim_orT {ta tb : TT} {ma mb : MT} (ha : SimT G W ta ma) (hb : SimT G W tb mb) : SimT G W (tOr ta tb) (mOrT ma mb) := by
  intro σ ρ H F ad st Q R S h
  refine simT_bind ha R S h fun b st1 H1 F1 ad1 R1 S1 h1 => ?_
  cases b with
  | true => rw [if_pos rfl] at h1 ⊢; exact fin_same S1 h1
  | false => rw [if_neg Bool.false_ne_true] at h1 ⊢; exact hb σ ρ H1 F1 ad1 st1 Q R1 S1 h1
theorem sim_notT {ta : TT} {ma : MT} (ha : SimT G W ta ma) : SimT G W (tNot ta) (mNotT ma) := by
  intro σ ρ H F ad st Q R S h
  exact simT_bind ha R S h fun b st1 H1 F1 ad1 R1 S1 h1 => fin_same S1 h1
theorem sim_if {tt : TT} {ta tb : TE} {mt : MT} {ma mb : ME} (ht : SimT G W tt mt) (ha : SimE G W ta ma) (hb : SimE G W tb mb) : SimE G W (tIf tt ta tb) (mIf mt ma mb) := by
  intro σ ρ H F ad st Q R S h
  refine simT_bind ht R S h fun b st1 H1 F1 ad1 R1 S1 h1 => ?_
  cases b with
  | true => rw [if_pos rfl] at h1 ⊢; exact ha σ ρ H1 F1 ad1 st1 Q R1 S1 h1
  | false => rw [if_neg Bool.false_ne_true] at h1 ⊢; exact hb σ ρ H1 F1 ad1 st1 Q R1 S1 h1
end

section
variable {G : Ga} {W : L2.WX} {X : Cx}
theorem de_and {a b : Expr} {rest : List Expr} {pos : Pos} {ma mb : ME} (ha : DE G W X a ma) (hb : DE G W X (.BoolOp .And (b :: rest) pos) mb) : DE G W X (.BoolOp .And (a :: b :: rest) pos) (mAnd ma mb) := by
  obtain ⟨ta, pa, sa⟩ := ha
  obtain ⟨tb, pb, sb⟩ := hb
  exact ⟨_, pe_and pa pb, sim_and sa sb⟩
theorem de_or {a b : Expr} {rest : List Expr} {pos : Pos} {ma mb : ME} (ha : DE G W X a ma) (hb : DE G W X (.BoolOp .Or (b :: rest) pos) mb) : DE G W X (.BoolOp .Or (a :: b :: rest) pos) (mOr ma mb) := by
  obtain ⟨ta, pa, sa⟩ := ha
  obtain ⟨tb, pb, sb⟩ := hb
  exact ⟨_, pe_or pa pb, sim_or sa sb⟩
theorem de_one {op} {a : Expr} {pos : Pos} {ma : ME} (ha : DE G W X a ma) : DE G W X (.BoolOp op [a] pos) ma := by
  obtain ⟨ta, pa, sa⟩ := ha
  exact ⟨_, pe_one pa, sa⟩
def DW (G : Ga) (W : L2.WX) (X : Cx) (e : Expr) (m : MT) : Prop := ∃ t, PW X e t ∧ SimT G W t m
theorem DW.dt {e : Expr} {m : MT} (h : DW G W X e m) : DT G W X e m := by
  obtain ⟨t, p, s⟩ := h
  exact ⟨t, p.pt, s⟩
theorem dw_and1 {a : Expr} {pos : Pos} {ma : MT} (ha : DT G W X a ma) : DW G W X (.BoolOp .And [a] pos) ma := by
  obtain ⟨t, p, s⟩ := ha
  exact ⟨_, pw_and1 p, s⟩
theorem dw_or1 {a : Expr} {pos : Pos} {ma : MT} (ha : DT G W X a ma) : DW G W X (.BoolOp .Or [a] pos) ma := by
  obtain ⟨t, p, s⟩ := ha
  exact ⟨_, pw_or1 p, s⟩
theorem dw_and {a b : Expr} {rest : List Expr} {pos : Pos} {ma mb : MT} (ha : DT G W X a ma) (hb : DW G W X (.BoolOp .And (b :: rest) pos) mb) : DW G W X (.BoolOp .And (a :: b :: rest) pos) (mAndT ma mb) := by
  obtain ⟨ta, pa, sa⟩ := ha
  obtain ⟨tb, pb, sb⟩ := hb
  exact ⟨_, pw_and pa pb, sim_andT sa sb⟩
theorem dw_or {a b : Expr} {rest : List Expr} {pos : Pos} {ma mb : MT} (ha : DT G W X a ma) (hb : DW G W X (.BoolOp .Or (b :: rest) pos) mb) : DW G W X (.BoolOp .Or (a :: b :: rest) pos) (mOrT ma mb) := by
  obtain ⟨ta, pa, sa⟩ := ha
  obtain ⟨tb, pb, sb⟩ := hb
  exact ⟨_, pw_or pa pb, sim_orT sa sb⟩
theorem dt_not {a : Expr} {pos : Pos} {ma : MT} (ha : DT G W X a ma) : DT G W X (.UnaryOp .Not a pos) (mNotT ma) := by
  obtain ⟨t, p, s⟩ := ha
  exact ⟨_, pt_not p, sim_notT s⟩
theorem de_if {c a b : Expr} {pos : Pos} {mt : MT} {ma mb : ME} (hc : DT G W X c mt) (ha : DE G W X a ma) (hb : DE G W X b mb) : DE G W X (.IfExp c a b pos) (mIf mt ma mb) := by
  obtain ⟨tc, pc, sc⟩ := hc
  obtain ⟨ta, pa, sa⟩ := ha
  obtain ⟨tb, pb, sb⟩ := hb
  exact ⟨_, pe_ifExp pc pa pb, sim_if sc sa sb⟩
/-! truth of any value -/
def truV : Va → Sto → Option Bool
  | .d .non, _ => some false
  | .d (.bl b), _ => some b
  | .d (.int i), _ => some (i != 0)
  | .d (.str x), _ => if x.length ≤ cap then some ((x.length : Int) != 0) else none
  | .d (.lst xs), _ => some (!xs.isEmpty)
  | .d (.tup xs), _ => some (!xs.isEmpty)
  | .ref n, st => match st[n]? with
    | some (.lst xs) => some (!xs.isEmpty)
    | _ => none
  | _, _ => none
def mTru (a : ME) : MT := fun ρ st => (a ρ st).bind fun x st => match truV x st with
  | some b => .ok b st
  | none => .bad
theorem Paired.isEmpty {α β : Type} {R : α → β → Prop} {xs : List α} {ys : List β} (h : Paired R xs ys) : xs.isEmpty = ys.isEmpty := by cases h <;> rfl
theorem Reps.isEmpty {F : Hp} {vs : List V} {ds : List D} (h : Reps G F vs ds) : vs.isEmpty = ds.isEmpty := by cases h <;> rfl
theorem truV_ok {H F : Hp} {ad : List Addr} {st : Sto} {v : V} {x : Va} {b : Bool} (S : SR G H F ad st) (r : RepV G F ad v x) (e : truV x st = some b) : TruV G.K v H b := by
  cases x with
  | ref n =>
    obtain ⟨a, ha, rfl⟩ := r
    have e : (match st[n]? with
      | some (.lst xs) => some (!xs.isEmpty)
      | _ => none) = some b := e
    cases z : st[n]? with
    | none => rw [z] at e; cases e
    | some o =>
      rw [z] at e
      cases o with
      | lst xs =>
        obtain ⟨vs, h1, h2⟩ := S.get ha z
        cases e
        exact .inl ⟨vs, SqL.of h1, by rw [Paired.isEmpty h2]⟩
      | _ => cases e
  | d x =>
    cases r with
    | non => cases e; rfl
    | bl b => cases e; rfl
    | int i => cases e; rfl
    | str x =>
      have e : (if x.length ≤ cap then some ((x.length : Int) != 0) else none) = some b := e
      split at e
      · rename_i hc
        cases e
        exact ⟨cap_ok hc, rfl⟩
      · cases e
    | lst h t => cases e; exact .inl ⟨_, SqL.of (S.sub _ _ h), by rw [t.isEmpty]⟩
    | tup h t => cases e; exact .inr (.inl ⟨_, sqT_same S.sub h, by rw [t.isEmpty]⟩)
    | obj _ h t => cases e
    | cls c _ => cases e
    | ty n => cases e
    | lck h => cases e
    | idn h => cases e
theorem dt_tru {a : Expr} {ma : ME} (hK : X.K = G.K) (ha : DE G W X a ma) (he : ∀ whole, isTrue a X.env whole = (do let v ← whole; standAt a.pos; holding [v] (truthy v)) := by intro _; rfl) : DT G W X a (mTru ma) := by
  obtain ⟨ta, pa, sa⟩ := ha
  refine ⟨_, pt_truth pa he, ?_⟩
  intro σ ρ H F ad st Q R S h
  refine simE_bind sa R S h fun x v st1 H1 F1 ad1 _ R1 S1 rv h1 => ?_
  cases z : truV x st1 with
  | none => rw [z] at h1; exact h1.elim
  | some b =>
    rw [z] at h1
    refine ⟨b, ?_, fin_same S1 h1⟩
    rw [hK]
    exact truV_ok S1 rv z
/-! arguments -/
def mNil : MA := fun _ st => .ok [] st
def mCons (a : ME) (r : MA) : MA := fun ρ st => (a ρ st).bind fun x st => (r ρ st).bind fun xs st => .ok (x :: xs) st
theorem da_nil : DA G W X [] mNil := ⟨_, pa_nil, fun σ ρ H F ad st Q R S h => fin_same S h _ .nil⟩
theorem da_cons {e : Expr} {es : List Expr} {me : ME} {m : MA} (ha : DE G W X e me) (hr : DA G W X es m) (hs : starEach (e :: es) X.env = (false, eval e X.env) :: starEach es X.env := by rfl) : DA G W X (e :: es) (mCons me m) := by
  obtain ⟨te, pe, se⟩ := ha
  obtain ⟨tr, pr, sr⟩ := hr
  refine ⟨_, pa_cons pe pr hs, ?_⟩
  intro σ ρ H F ad st Q R S h
  refine simE_bind se R S h fun x v st1 H1 F1 ad1 _ R1 S1 rv h1 => ?_
  refine simA_bind sr R1 S1 h1 fun xs vs st2 H2 F2 ad2 e2 R2 S2 rvs h2 => ?_
  exact fin_same S2 h2 _ (.cons (rv.ext e2) rvs)
/-- *e -/
def itemsOf : Va → Sto → Option (List Va)
  | .d (.lst xs), _ => some (xs.map Va.d)
  | .d (.tup xs), _ => some (xs.map Va.d)
  | .ref n, st => match st[n]? with
    | some (.lst xs) => some xs
    | _ => none
  | _, _ => none
theorem itemsOf_ok {H F : Hp} {ad : List Addr} {st : Sto} {v : V} {x : Va} {ds : List Va} (S : SR G H F ad st) (r : RepV G F ad v x) (e : itemsOf x st = some ds) : ∃ a vs, v = .ref a ∧ (SqL G.K H a vs ∨ SqT G.K H a vs) ∧ RepVs G F ad vs ds := by
  cases x with
  | ref n =>
    obtain ⟨a, ha, rfl⟩ := r
    have e : (match st[n]? with
      | some (.lst xs) => some xs
      | _ => none) = some ds := e
    cases z : st[n]? with
    | none => rw [z] at e; cases e
    | some o =>
      rw [z] at e
      cases o with
      | lst xs =>
        obtain ⟨vs, h1, h2⟩ := S.get ha z
        cases e
        exact ⟨a, vs, rfl, .inl (SqL.of h1), h2⟩
      | _ => cases e
  | d x =>
    cases r with
    | lst h t => cases e; exact ⟨_, _, rfl, .inl (SqL.of (S.sub _ _ h)), t.va⟩
    | tup h t => cases e; exact ⟨_, _, rfl, .inr (sqT_same S.sub h), t.va⟩
    | _ => cases e
def mStar (a : ME) (r : MA) : MA := fun ρ st => (a ρ st).bind fun x st => match itemsOf x st with
  | some xs => (r ρ st).bind fun ys st => .ok (xs ++ ys) st
  | none => .bad
theorem Paired.append {α β : Type} {R : α → β → Prop} : ∀ {xs xs2 : List α} {ys ys2 : List β}, Paired R xs ys → Paired R xs2 ys2 → Paired R (xs ++ xs2) (ys ++ ys2)
  | _, _, _, _, .nil, b => b
  | _, _, _, _, .cons h t, b => .cons h (Paired.append t b)
theorem da_star {e : Expr} {es : List Expr} {p : Pos} {me : ME} {m : MA} (hK : X.K = G.K) (ha : DE G W X e me) (hr : DA G W X es m) (hs : starEach (.Starred e p :: es) X.env = (true, eval e X.env) :: starEach es X.env := by rfl) : DA G W X (.Starred e p :: es) (mStar me m) := by
  obtain ⟨te, pe, se⟩ := ha
  obtain ⟨tr, pr, sr⟩ := hr
  refine ⟨_, StX.pa_star pe pr hs, ?_⟩
  intro σ ρ H F ad st Q R S h
  refine simE_bind se R S h fun x v st1 H1 F1 ad1 _ R1 S1 rv h1 => ?_
  cases z : itemsOf x st1 with
  | none => rw [z] at h1; exact h1.elim
  | some xs =>
    rw [z] at h1
    obtain ⟨a, ws, rfl, hq, rw⟩ := itemsOf_ok S1 rv z
    refine ⟨a, ws, rfl, by rw [hK]; exact hq.symm, ?_⟩
    refine simA_bind sr R1 S1 h1 fun ys vs st2 H2 F2 ad2 e2 R2 S2 rvs h2 => ?_
    exact fin_same S2 h2 _ (Paired.append (RepVs.ext e2 rw) rvs)
/-! displays -/
def ds? : List Va → Option (List D)
  | [] => some []
  | .d x :: r => (ds? r).map (x :: ·)
  | .ref _ :: _ => none
@[simp] theorem ds?_map : ∀ xs : List D, ds? (xs.map Va.d) = some xs
  | [] => rfl
  | x :: xs => by
    show (ds? (xs.map Va.d)).map (x :: ·) = _
    rw [ds?_map xs]
    rfl
theorem ds?_ok : ∀ {xs : List Va} {ds : List D}, ds? xs = some ds → xs = ds.map Va.d
  | [], ds, h => by cases h; rfl
  | .d x :: r, ds, h => by
    have h : (ds? r).map (x :: ·) = some ds := h
    cases z : ds? r with
    | none => rw [z] at h; cases h
    | some es =>
      rw [z] at h
      cases h
      rw [ds?_ok z]
      rfl
  | .ref _ :: _, ds, h => by cases h
theorem repVs_ds {F : Hp} {ad : List Addr} {vs : List V} {xs : List Va} {ds : List D} (h : RepVs G F ad vs xs) (e : ds? xs = some ds) : Reps G F vs ds := by
  rw [ds?_ok e] at h
  exact Reps.of h
theorem ds?_len {xs : List Va} {ds : List D} (h : ds? xs = some ds) : xs.length = ds.length := by rw [ds?_ok h, List.length_map]
def mLst (m : MA) : ME := fun ρ st => (m ρ st).bind fun xs st => match ds? xs with
  | some ds => if ds.length ≤ cap then .ok (.d (.lst ds)) st else .bad
  | none => .bad
def mTup (m : MA) : ME := fun ρ st => (m ρ st).bind fun xs st => match ds? xs with
  | some ds => if ds.length ≤ cap then .ok (.d (.tup ds)) st else .bad
  | none => .bad
/-- a list that may change -/
def mLstC (m : MA) : ME := fun ρ st => (m ρ st).bind fun xs st => if xs.length ≤ cap then .ok (.ref st.length) (st ++ [.lst xs]) else .bad
theorem fin_cell {Wv : Value → Option Addr → Hp → Prop} {H F : Hp} {ad : List Addr} {st : Sto} {o : HO} {m : MO} {p : Addr} {Q : VK} (S : SR G H F ad st) (hp : H p = none) (hm : ObjR G F (ad ++ [p]) (upd H p o) p m) (h : Po G Wv H F ad (QV G Q) (.ok (.ref st.length) (st ++ [m]))) : Q (.ref p) (upd H p o) :=
  h _ _ _ (ext_cell S hp) (S.cell hp hm) _ ⟨p, by rw [← S.len]; simp, rfl⟩
theorem de_lst {es : List Expr} {pos : Pos} {m : MA} (h : DA G W X es m) : DE G W X (.List es pos) (mLst m) := by
  obtain ⟨t, p, s⟩ := h
  refine ⟨_, pe_lst p, ?_⟩
  intro σ ρ H F ad st Q R S h
  refine simA_bind s R S h fun xs vs st1 H1 F1 ad1 _ R1 S1 rvs h1 => ?_
  cases z : ds? xs with
  | none => rw [z] at h1; exact h1.elim
  | some ds =>
    rw [z] at h1
    have h1 : Po G _ H1 F1 ad1 (QV G Q) (if ds.length ≤ cap then .ok (.d (.lst ds)) st1 else .bad) := h1
    split at h1
    · rename_i hc
      refine ⟨by rw [Paired.length rvs, ds?_len z]; exact cap_ok hc, fun q hq => ?_⟩
      exact fin_new S1 hq (.lst upd_same ((repVs_ds rvs z).same (ext_new S1 hq).fz)) h1
    · exact h1.elim
theorem de_tup {es : List Expr} {x1} {pos : Pos} {m : MA} (h : DA G W X es m) : DE G W X (.Tuple es x1 pos) (mTup m) := by
  obtain ⟨t, p, s⟩ := h
  refine ⟨_, pe_tup p, ?_⟩
  intro σ ρ H F ad st Q R S h
  refine simA_bind s R S h fun xs vs st1 H1 F1 ad1 _ R1 S1 rvs h1 => ?_
  cases z : ds? xs with
  | none => rw [z] at h1; exact h1.elim
  | some ds =>
    rw [z] at h1
    have h1 : Po G _ H1 F1 ad1 (QV G Q) (if ds.length ≤ cap then .ok (.d (.tup ds)) st1 else .bad) := h1
    split at h1
    · rename_i hc
      refine ⟨by rw [Paired.length rvs, ds?_len z]; exact cap_ok hc, fun q hq => ?_⟩
      exact fin_new S1 hq (.tup (SqT.of upd_same) ((repVs_ds rvs z).same (ext_new S1 hq).fz)) h1
    · exact h1.elim
theorem de_lstC {es : List Expr} {pos : Pos} {m : MA} (h : DA G W X es m) : DE G W X (.List es pos) (mLstC m) := by
  obtain ⟨t, p, s⟩ := h
  refine ⟨_, pe_lst p, ?_⟩
  intro σ ρ H F ad st Q R S h
  refine simA_bind s R S h fun xs vs st1 H1 F1 ad1 _ R1 S1 rvs h1 => ?_
  have h1 : Po G _ H1 F1 ad1 (QV G Q) (if xs.length ≤ cap then .ok (.ref st1.length) (st1 ++ [.lst xs]) else .bad) := h1
  split at h1
  · rename_i hc
    refine ⟨by rw [Paired.length rvs]; exact cap_ok hc, fun q hq => ?_⟩
    exact fin_cell (m := .lst xs) S1 hq ⟨vs, upd_same, RepVs.ext (ext_cell S1 (o := .lst vs) hq) rvs⟩ h1
  · exact h1.elim
/-! items -/
def oIx : O2
  | .d (.lst xs), .d (.int i), st => match atI xs i with
    | some x => .ok (.d x) st
    | none => .bad
  | .d (.tup xs), .d (.int i), st => match atI xs i with
    | some x => .ok (.d x) st
    | none => .bad
  | .d (.lck xs), .d (.int i), st => match atI xs i with
    | some x => .ok (.d (.int x)) st
    | none => .bad
  | .d (.str z), .d (.int i), st => if z.length ≤ cap then (match atI z.cps.toList i with
    | some c => .ok (.d (.str ⟨#[c]⟩)) st
    | none => .bad) else .bad
  | .ref n, .d (.int i), st => match st[n]? with
    | some (.lst xs) => (match atI xs i with
      | some x => .ok x st
      | none => .bad)
    | _ => .bad
  | _, _, _ => .bad
theorem atI_rel {α β : Type} {R : α → β → Prop} {xs : List α} {ys : List β} (hl : xs.length = ys.length) (hg : ∀ (i : Nat) y, ys[i]? = some y → ∃ x, xs[i]? = some x ∧ R x y) {i : Int} {y : β} (h : atI ys i = some y) : ∃ x, atI xs i = some x ∧ R x y := by
  unfold atI at h ⊢
  rw [hl]
  cases z : ixN ys.length i with
  | none => rw [z] at h; cases h
  | some j =>
    rw [z] at h
    exact hg j y h
theorem Paired.getR {α β : Type} {R : α → β → Prop} : ∀ {xs : List α} {ys : List β}, Paired R xs ys → ∀ (i : Nat) y, ys[i]? = some y → ∃ x, xs[i]? = some x ∧ R x y
  | _, _, .nil, _, _, e => by simp at e
  | _, _, .cons h _, 0, _, e => by simp at e; subst e; exact ⟨_, rfl, h⟩
  | _, _, .cons _ t, i + 1, y, e => by
    obtain ⟨v, h1, h2⟩ := Paired.getR t i y (by simpa using e)
    exact ⟨v, by simpa using h1, h2⟩
theorem sim_ix : SimR2 G (rIx G.K) oIx := by
  intro Wv x y dx dy H F ad st Q rx ry S h
  cases dy with
  | ref n =>
    cases dx with
    | ref m => exact h.elim
    | d dx => cases dx <;> exact h.elim
  | d dy =>
    cases dy with
    | int i =>
      cases ry
      cases dx with
      | ref n =>
        obtain ⟨a, ha, rfl⟩ := rx
        have h : Po G Wv H F ad (QV G Q) (match st[n]? with
          | some (.lst xs) => (match atI xs i with
            | some x => .ok x st
            | none => .bad)
          | _ => .bad) := h
        cases z : st[n]? with
        | none => rw [z] at h; exact h.elim
        | some o =>
          rw [z] at h
          cases o with
          | lst xs =>
            obtain ⟨vs, h1, h2⟩ := S.get ha z
            cases e : atI xs i with
            | none =>
              have h : Po G Wv H F ad (QV G Q) (match atI xs i with
                | some x => .ok x st
                | none => .bad) := h
              rw [e] at h; exact h.elim
            | some d =>
              have h : Po G Wv H F ad (QV G Q) (match atI xs i with
                | some x => .ok x st
                | none => .bad) := h
              rw [e] at h
              obtain ⟨v, h3, h4⟩ := atI_rel (Paired.length h2) (Paired.getR h2) e
              exact .inl ⟨a, vs, i, v, rfl, rfl, SqL.of h1, h3, fin_same S h _ h4⟩
          | _ => exact h.elim
      | d dx =>
        cases dx with
        | lst xs =>
          have h : Po G Wv H F ad (QV G Q) (match atI xs i with
            | some x => .ok (.d x) st
            | none => .bad) := h
          cases rx with
          | @lst a vs _ h1 t1 =>
            cases e : atI xs i with
            | none => rw [e] at h; exact h.elim
            | some d =>
              rw [e] at h
              obtain ⟨v, h3, h4⟩ := atI_rel (R := fun v d => Rep G F v d) t1.length (fun j y z => t1.get z) e
              exact .inl ⟨a, vs, i, v, rfl, rfl, SqL.of (S.sub _ _ h1), h3, fin_same S h _ h4⟩
        | tup xs =>
          have h : Po G Wv H F ad (QV G Q) (match atI xs i with
            | some x => .ok (.d x) st
            | none => .bad) := h
          cases rx with
          | @tup a vs _ h1 t1 =>
            cases e : atI xs i with
            | none => rw [e] at h; exact h.elim
            | some d =>
              rw [e] at h
              obtain ⟨v, h3, h4⟩ := atI_rel (R := fun v d => Rep G F v d) t1.length (fun j y z => t1.get z) e
              exact .inr (.inl ⟨a, vs, i, v, rfl, rfl, sqT_same S.sub h1, h3, fin_same S h _ h4⟩)
        | lck xs =>
          have h : Po G Wv H F ad (QV G Q) (match atI xs i with
            | some x => .ok (.d (.int x)) st
            | none => .bad) := h
          cases rx with
          | @lck a _ h1 =>
            cases e : atI xs i with
            | none => rw [e] at h; exact h.elim
            | some d =>
              rw [e] at h
              obtain ⟨v, h3, h4⟩ := atI_rel (xs := xs.map V.int) (ys := xs) (R := fun v d => v = V.int d) (List.length_map _) (fun j y z => ⟨.int y, by rw [List.getElem?_map, z]; rfl, rfl⟩) e
              subst h4
              exact .inl ⟨a, _, i, _, rfl, rfl, S.sub.seq h1, h3, fin_same S h _ (.int d)⟩
        | str z =>
          cases rx
          have h : Po G Wv H F ad (QV G Q) (if z.length ≤ cap then (match atI z.cps.toList i with
            | some c => .ok (.d (.str ⟨#[c]⟩)) st
            | none => .bad) else .bad) := h
          split at h
          · rename_i hc
            cases e : atI z.cps.toList i with
            | none => rw [e] at h; exact h.elim
            | some c =>
              rw [e] at h
              exact .inr (.inr ⟨z, i, c, rfl, rfl, cap_ok hc, e, fin_same S h _ (.str _)⟩)
          · exact h.elim
        | _ => exact h.elim
    | _ =>
      cases dx with
      | ref m => exact h.elim
      | d dx => cases dx <;> exact h.elim
theorem de_ix {a b : Expr} {pos : Pos} {ma mb : ME} (hK : X.K = G.K) (ha : DE G W X a ma) (hb : DE G W X b mb) (hs : PlainIx b) : DE G W X (.Subscript a b pos) (mBin oIx ma mb) := by
  obtain ⟨ta, pa, sa⟩ := ha
  obtain ⟨tb, pb, sb⟩ := hb
  refine ⟨_, pe_ix (r := rIx G.K) (by rw [← hK]; exact ix_seq) pa pb hs, sim_op sim_ix sa sb⟩
/-! slices -/
def cutA {α : Type} (xs : List α) (lo hi : Option Int) : List α := (xs.drop (HT.sIx xs.length 0 lo)).take (HT.sIx xs.length xs.length hi - HT.sIx xs.length 0 lo)
abbrev MO' := Ev → Sto → Res (Option Int)
def SimO (G : Ga) (W : L2.WX) (t : TO) (m : MO') : Prop := ∀ (σ : L2.St) (ρ : Ev) (H F : Hp) (ad : List Addr) (st : Sto) (Q : Option Int → Hp → Prop), RelE G F ad σ ρ → SR G H F ad st →
  Po G (fun c d H' => W c d σ H') H F ad (fun b _ H' _ _ => Q b H') (m ρ st) → t σ H Q
def DO (G : Ga) (W : L2.WX) (X : Cx) (e : Option Expr) (m : MO') : Prop := ∃ t, PO X e t ∧ SimO G W t m
def mNo : MO' := fun _ st => .ok none st
def mPart (a : ME) : MO' := fun ρ st => (a ρ st).bind fun x st => match x with
  | .d (.int i) => .ok (some i) st
  | _ => .bad
theorem do_none : DO G W X none mNo := ⟨_, po_none, fun σ ρ H F ad st Q R S h => fin_same S h⟩
theorem do_some {e : Expr} {m : ME} (h : DE G W X e m) : DO G W X (some e) (mPart m) := by
  obtain ⟨t, p, s⟩ := h
  refine ⟨_, po_some p, ?_⟩
  intro σ ρ H F ad st Q R S h
  refine simE_bind s R S h fun x v st1 H1 F1 ad1 _ R1 S1 rv h1 => ?_
  cases x with
  | ref n => exact h1.elim
  | d x => cases x with
    | int i => cases rv; exact ⟨i, rfl, fin_same S1 h1⟩
    | _ => exact h1.elim
def oSl (x : Va) (lo hi : Option Int) (st : Sto) : Res Va := match x with
  | .d (.lst xs) => .ok (.d (.lst (cutA xs lo hi))) st
  | .d (.tup xs) => .ok (.d (.tup (cutA xs lo hi))) st
  | .ref n => match st[n]? with
    | some (.lst xs) => (match ds? (cutA xs lo hi) with
      | some ds => .ok (.d (.lst ds)) st
      | none => .bad)
    | _ => .bad
  | _ => .bad
def mSl (a : ME) (lo hi : MO') : ME := fun ρ st => (a ρ st).bind fun x st => (lo ρ st).bind fun l st => (hi ρ st).bind fun h st => oSl x l h st
def rSls (K : PySem.W.Frag) : V → Option Int → Option Int → Hp → VK → Prop := fun x lo hi H Q => rSlL K x lo hi H Q ∨ rSlA K x lo hi H Q
theorem Reps.cut {F : Hp} {vs : List V} {ds : List D} (h : Reps G F vs ds) (lo hi : Option Int) : Reps G F (cutV vs lo hi) (cutA ds lo hi) := by
  have hd : ∀ {vs : List V} {ds : List D} (n : Nat), Reps G F vs ds → Reps G F (vs.drop n) (ds.drop n) := by
    intro vs ds n h
    induction n generalizing vs ds with
    | zero => exact h
    | succ n ih => cases h with
      | nil => exact .nil
      | cons _ t => exact ih t
  have ht : ∀ {vs : List V} {ds : List D} (n : Nat), Reps G F vs ds → Reps G F (vs.take n) (ds.take n) := by
    intro vs ds n h
    induction n generalizing vs ds with
    | zero => exact .nil
    | succ n ih => cases h with
      | nil => exact .nil
      | cons h t => exact .cons h (ih t)
  unfold cutV cutA
  rw [h.length]
  exact ht _ (hd _ h)
theorem Paired.drop {α β : Type} {R : α → β → Prop} {xs : List α} {ys : List β} (n : Nat) (h : Paired R xs ys) : Paired R (xs.drop n) (ys.drop n) := by
  induction n generalizing xs ys with
  | zero => exact h
  | succ n ih => cases h with
    | nil => exact .nil
    | cons _ t => exact ih t
theorem Paired.take {α β : Type} {R : α → β → Prop} {xs : List α} {ys : List β} (n : Nat) (h : Paired R xs ys) : Paired R (xs.take n) (ys.take n) := by
  induction n generalizing xs ys with
  | zero => exact .nil
  | succ n ih => cases h with
    | nil => exact .nil
    | cons h t => exact .cons h (ih t)
theorem cut_whole {α : Type} {xs : List α} {lo hi : Option Int} (h : HT.sIx xs.length 0 lo = 0 ∧ HT.sIx xs.length xs.length hi = xs.length) : cutA xs lo hi = xs := by
  unfold cutA
  rw [h.1, h.2]
  simp
theorem de_sl {e : Expr} {lo hi : Option Expr} {p2 pos : Pos} {m : ME} {ml mh : MO'} (hK : X.K = G.K) (he : DE G W X e m) (hl : DO G W X lo ml) (hh : DO G W X hi mh) : DE G W X (.Subscript e (.Slice lo hi none p2) pos) (mSl m ml mh) := by
  obtain ⟨te, pe, se⟩ := he
  obtain ⟨tl, pl, sl⟩ := hl
  obtain ⟨th, ph, sh⟩ := hh
  refine ⟨_, pe_slice (r := rSls G.K) (by rw [← hK]; exact sl_list.or sl_tupA) pe pl ph, ?_⟩
  intro σ ρ H F ad st Q R S h
  refine simE_bind se R S h fun x v st1 H1 F1 ad1 _ R1 S1 rv h1 => ?_
  refine sl σ ρ H1 F1 ad1 st1 _ R1 S1 ?_
  have z1 := Po.bind h1
  revert z1
  generalize ml ρ st1 = rl
  intro z1
  cases rl with
  | bad => exact z1
  | er c fs st2 => exact z1
  | ok l st2 =>
    intro H2 F2 ad2 e2 S2
    have z2 := Po.bind (z1 H2 F2 ad2 e2 S2)
    refine sh σ ρ H2 F2 ad2 st2 _ (R1.ext e2) S2 ?_
    revert z2
    generalize mh ρ st2 = rh
    intro z2
    cases rh with
    | bad => exact z2
    | er c fs st3 => exact z2
    | ok u st3 =>
      intro H3 F3 ad3 e3 S3
      have z3 := z2 H3 F3 ad3 e3 S3
      have r3 := (rv.ext e2).ext e3
      cases x with
      | ref n =>
        obtain ⟨a, ha, rfl⟩ := r3
        have z3 : Po G _ H3 F3 ad3 (QV G Q) (match st3[n]? with
          | some (.lst xs) => (match ds? (cutA xs l u) with
            | some ds => .ok (.d (.lst ds)) st3
            | none => .bad)
          | _ => .bad) := z3
        cases z : st3[n]? with
        | none => rw [z] at z3; exact z3.elim
        | some o =>
          rw [z] at z3
          cases o with
          | lst xs =>
            have z3 : Po G _ H3 F3 ad3 (QV G Q) (match ds? (cutA xs l u) with
              | some ds => .ok (.d (.lst ds)) st3
              | none => .bad) := z3
            obtain ⟨vs, h1, h2⟩ := S3.get ha z
            cases zz : ds? (cutA xs l u) with
            | none => rw [zz] at z3; exact z3.elim
            | some ds =>
              rw [zz] at z3
              refine .inl ⟨a, vs, rfl, SqL.of h1, fun p hp => ?_⟩
              have hr : RepVs G F3 ad3 (cutV vs l u) (cutA xs l u) := by
                unfold cutV cutA
                rw [Paired.length h2]
                exact Paired.take _ (Paired.drop _ h2)
              exact fin_new S3 hp (.lst upd_same ((repVs_ds hr zz).same (ext_new S3 hp).fz)) z3
          | _ => exact z3.elim
      | d x => cases x with
        | lst xs => cases r3 with
          | @lst a vs _ h1 t1 => exact .inl ⟨a, vs, rfl, SqL.of (S3.sub _ _ h1), fun p hp => fin_new S3 hp (.lst upd_same ((t1.cut l u).same (ext_new S3 hp).fz)) z3⟩
        | tup xs => cases r3 with
          | @tup a vs _ h1 t1 =>
            refine .inr ⟨a, vs, rfl, sqT_same S3.sub h1, fun hw => ?_, fun _ p hp => fin_new S3 hp (.tup (SqT.of upd_same) ((t1.cut l u).same (ext_new S3 hp).fz)) z3⟩
            have e : cutA xs l u = xs := cut_whole (by rw [← t1.length]; exact hw)
            have z3 : Po G _ H3 F3 ad3 (QV G Q) (.ok (.d (.tup (cutA xs l u))) st3) := z3
            rw [e] at z3
            exact fin_same S3 z3 _ (.tup h1 t1)
        | _ => exact z3.elim
end

/-! ### built-in calls -/
section
variable {G : Ga} {W : L2.WX} {X : Cx}
abbrev OL := List Va → Sto → Res Va
def SimC (G : Ga) (r : List V → Hp → VK → Prop) (f : OL) : Prop := ∀ (Wv : Value → Option Addr → Hp → Prop) (vs : List V) (ds : List Va) (H F : Hp) (ad : List Addr) (st : Sto) (Q : VK), RepVs G F ad vs ds → SR G H F ad st → Po G Wv H F ad (QV G Q) (f ds st) → r vs H Q
def mCB (f : OL) (m : MA) : ME := fun ρ st => (m ρ st).bind fun xs st => f xs st
theorem sim_cb {r : List V → Hp → VK → Prop} {f : OL} {t : TA} {m : MA} (hr : SimC G r f) (s : SimA G W t m) : SimE G W (tCB r t) (mCB f m) := by
  intro σ ρ H F ad st Q R S h
  exact simA_bind s R S h fun xs vs st1 H1 F1 ad1 _ R1 S1 rvs h1 => hr _ vs xs H1 F1 ad1 st1 Q rvs S1 h1
theorem de_cb {x : Str} {id : String} {r : List V → Hp → VK → Prop} {f : OL} {e : Expr} {es : List Expr} {p pos : Pos} {m : MA} (hc : CallR X (.builtin id) r) (hs : SimC G r f) (hg : Gl X x) (hm : X.mg x = none) (hv : bootBuiltins x = some (.builtin id)) (ha : DA G W X (e :: es) m)
    (hn : x ≠ "__name__" := by decide) (hdb : (x == ("__debug__" : Str)) = false := by decide) (he : starEach (e :: es) X.env = (false, eval e X.env) :: starEach es X.env := by rfl) (hpl : (backTo pos (starEach es X.env)).any (·.1) = false := by rfl) : DE G W X (.Call (.Name x p) (e :: es) [] pos) (mCB f m) := by
  obtain ⟨t, pt, st⟩ := ha
  exact ⟨_, pe_callB hc hg hm hv pt hn hdb he hpl, sim_cb hs st⟩
theorem de_ct {x : Str} {T : String} {r : List V → Hp → VK → Prop} {f : OL} {e : Expr} {es : List Expr} {p pos : Pos} {m : MA} (hc : CallR X (.type T) r) (hs : SimC G r f) (hg : Gl X x) (hm : X.mg x = none) (hv : bootBuiltins x = some (.type T)) (ha : DA G W X (e :: es) m)
    (hn : x ≠ "__name__" := by decide) (hdb : (x == ("__debug__" : Str)) = false := by decide) (he : starEach (e :: es) X.env = (false, eval e X.env) :: starEach es X.env := by rfl) (hpl : (backTo pos (starEach es X.env)).any (·.1) = false := by rfl) : DE G W X (.Call (.Name x p) (e :: es) [] pos) (mCB f m) := by
  obtain ⟨t, pt, st⟩ := ha
  exact ⟨_, pe_callTy hc hg hm hv pt hn hdb he hpl, sim_cb hs st⟩
/-! len -/
def oLen : OL
  | [.d (.str x)], st => if x.length ≤ cap then .ok (.d (.int x.length)) st else .bad
  | [.d (.lst xs)], st => .ok (.d (.int xs.length)) st
  | [.d (.tup xs)], st => .ok (.d (.int xs.length)) st
  | [.d (.lck xs)], st => .ok (.d (.int xs.length)) st
  | [.ref n], st => match st[n]? with
    | some (.lst xs) => .ok (.d (.int xs.length)) st
    | _ => .bad
  | _, _ => .bad
def rLens (K : PySem.W.Frag) : List V → Hp → VK → Prop := fun xs H Q => ∃ x n, xs = [x] ∧ LenV K x H n ∧ Q (.int n) H
theorem cr_len (hK : X.K = G.K) : CallR X (.builtin "len") (rLens G.K) := by rw [← hK]; exact call_len
theorem sim_len : SimC G (rLens G.K) oLen := by
  intro Wv vs ds H F ad st Q r S h
  cases r with
  | nil => exact h.elim
  | @cons v x vs' ds' r t =>
    cases t with
    | cons r2 t2 => cases x with
      | ref n => exact h.elim
      | d x => cases x <;> exact h.elim
    | nil =>
      cases x with
      | ref n =>
        obtain ⟨a, ha, rfl⟩ := r
        have h : Po G Wv H F ad (QV G Q) (match st[n]? with
          | some (.lst xs) => .ok (.d (.int xs.length)) st
          | _ => .bad) := h
        cases z : st[n]? with
        | none => rw [z] at h; exact h.elim
        | some o =>
          rw [z] at h
          cases o with
          | lst xs =>
            obtain ⟨ws, h1, h2⟩ := S.get ha z
            refine ⟨_, ws.length, rfl, .inl ⟨ws, SqL.of h1, rfl⟩, ?_⟩
            rw [Paired.length h2]
            exact fin_same S h _ (.int _)
          | _ => exact h.elim
      | d x =>
        cases r with
        | str x =>
          have h : Po G Wv H F ad (QV G Q) (if x.length ≤ cap then .ok (.d (.int x.length)) st else .bad) := h
          split at h
          · rename_i hc
            exact ⟨_, _, rfl, ⟨cap_ok hc, rfl⟩, fin_same S h _ (.int _)⟩
          · exact h.elim
        | @lst a ws xs h1 t1 =>
          refine ⟨_, ws.length, rfl, .inl ⟨_, SqL.of (S.sub _ _ h1), rfl⟩, ?_⟩
          rw [t1.length]
          exact fin_same S h _ (.int _)
        | @tup a ws xs h1 t1 =>
          refine ⟨_, ws.length, rfl, .inr ⟨_, sqT_same S.sub h1, rfl⟩, ?_⟩
          rw [t1.length]
          exact fin_same S h _ (.int _)
        | @lck a ns h1 =>
          refine ⟨_, (ns.map V.int).length, rfl, .inl ⟨_, S.sub.seq h1, rfl⟩, ?_⟩
          rw [List.length_map]
          exact fin_same S h _ (.int _)
        | _ => exact h.elim
/-! one int, two ints -/
def oI1 (f : Int → Int) : OL
  | [.d (.int i)], st => .ok (.d (.int (f i))) st
  | _, _ => .bad
theorem sim_I1 {f : Int → Int} : SimC G (fun xs H Q => ∃ i, xs = [.int i] ∧ Q (.int (f i)) H) (oI1 f) := by
  intro Wv vs ds H F ad st Q r S h
  cases r with
  | nil => exact h.elim
  | @cons v x vs' ds' r t =>
    cases t with
    | cons r2 t2 => cases x with
      | ref n => exact h.elim
      | d x => cases x <;> exact h.elim
    | nil => cases x with
      | ref n => exact h.elim
      | d x => cases r with
        | int i => exact ⟨i, rfl, fin_same S h _ (.int _)⟩
        | _ => exact h.elim
def oI2 (f : Int → Int → Int) : OL
  | [.d (.int i), .d (.int j)], st => .ok (.d (.int (f i j))) st
  | _, _ => .bad
theorem sim_I2 {f : Int → Int → Int} : SimC G (fun xs H Q => ∃ i j, xs = [.int i, .int j] ∧ Q (.int (f i j)) H) (oI2 f) := by
  intro Wv vs ds H F ad st Q r S h
  cases r with
  | nil => exact h.elim
  | @cons v x vs' ds' r t =>
    cases t with
    | nil => cases x with
      | ref n => exact h.elim
      | d x => cases x <;> exact h.elim
    | @cons v2 x2 _ _ r2 t2 =>
      cases x with
      | ref n => exact h.elim
      | d x => cases x2 with
        | ref n => cases x <;> exact h.elim
        | d x2 => cases t2 with
          | cons _ _ => cases x <;> (try exact h.elim) <;> cases x2 <;> exact h.elim
          | nil => cases r with
            | int i => cases r2 with
              | int j => exact ⟨i, j, rfl, fin_same S h _ (.int _)⟩
              | _ => exact h.elim
            | _ => exact h.elim
def oAbs : OL := oI1 fun i => if i < 0 then -i else i
def oMax : OL := oI2 fun i j => if j > i then j else i
def oMin : OL := oI2 fun i j => if j < i then j else i
def oInt : OL
  | [.d (.int i)], st => .ok (.d (.int i)) st
  | [.d (.bl b)], st => .ok (.d (.int (if b then 1 else 0))) st
  | _, _ => .bad
theorem sim_int : SimC G (fun xs H Q => (∃ i, xs = [.int i] ∧ Q (.int i) H) ∨ ∃ k, xs = [.bl k] ∧ Q (.int (if k then 1 else 0)) H) oInt := by
  intro Wv vs ds H F ad st Q r S h
  cases r with
  | nil => exact h.elim
  | @cons v x vs' ds' r t =>
    cases t with
    | cons r2 t2 => cases x with
      | ref n => exact h.elim
      | d x => cases x <;> exact h.elim
    | nil => cases x with
      | ref n => exact h.elim
      | d x => cases r with
        | int i => exact .inl ⟨i, rfl, fin_same S h _ (.int _)⟩
        | bl b => exact .inr ⟨b, rfl, fin_same S h _ (.int _)⟩
        | _ => exact h.elim
/-! lists of ints, of bools -/
def ints? : List D → Option (List Int)
  | [] => some []
  | .int x :: r => (ints? r).map (x :: ·)
  | _ => none
@[simp] theorem ints?_map : ∀ xs : List Int, ints? (xs.map D.int) = some xs
  | [] => rfl
  | x :: xs => by
    show (ints? (xs.map D.int)).map (x :: ·) = _
    rw [ints?_map xs]
    rfl
theorem ints?_ok {F : Hp} : ∀ {vs : List V} {ds : List D} {ns : List Int}, Reps G F vs ds → ints? ds = some ns → vs = ns.map V.int
  | _, _, ns, .nil, h => by cases h; rfl
  | _, _, ns, @Reps.cons _ _ _ _ _ ds r t, h => by
    cases r with
    | @int i =>
      have h : (ints? ds).map (i :: ·) = some ns := h
      cases z : ints? ds with
      | none => rw [z] at h; cases h
      | some es =>
        rw [z] at h
        cases h
        rw [ints?_ok t z]
        rfl
    | _ => cases h
def bls? : List D → Option (List Bool)
  | [] => some []
  | .bl x :: r => (bls? r).map (x :: ·)
  | _ => none
@[simp] theorem bls?_map : ∀ xs : List Bool, bls? (xs.map D.bl) = some xs
  | [] => rfl
  | x :: xs => by
    show (bls? (xs.map D.bl)).map (x :: ·) = _
    rw [bls?_map xs]
    rfl
theorem bls?_ok {F : Hp} : ∀ {vs : List V} {ds : List D} {ns : List Bool}, Reps G F vs ds → bls? ds = some ns → vs = ns.map V.bl
  | _, _, ns, .nil, h => by cases h; rfl
  | _, _, ns, @Reps.cons _ _ _ _ _ ds r t, h => by
    cases r with
    | @bl i =>
      have h : (bls? ds).map (i :: ·) = some ns := h
      cases z : bls? ds with
      | none => rw [z] at h; cases h
      | some es =>
        rw [z] at h
        cases h
        rw [bls?_ok t z]
        rfl
    | _ => cases h
/-- what is read off a list, frozen or a cell -/
def lst? : Va → Sto → Option (List D)
  | .d (.lst xs), _ => some xs
  | .ref n, st => match st[n]? with
    | some (.lst xs) => ds? xs
    | _ => none
  | _, _ => none
theorem lst?_ok {H F : Hp} {ad : List Addr} {st : Sto} {v : V} {x : Va} {ds : List D} (S : SR G H F ad st) (r : RepV G F ad v x) (e : lst? x st = some ds) : ∃ a vs, v = .ref a ∧ H a = some (.lst vs) ∧ Reps G F vs ds := by
  cases x with
  | ref n =>
    obtain ⟨a, ha, rfl⟩ := r
    have e : (match st[n]? with
      | some (.lst xs) => ds? xs
      | _ => none) = some ds := e
    cases z : st[n]? with
    | none => rw [z] at e; cases e
    | some o =>
      rw [z] at e
      cases o with
      | lst xs =>
        obtain ⟨vs, h1, h2⟩ := S.get ha z
        exact ⟨a, vs, rfl, h1, repVs_ds h2 e⟩
      | _ => cases e
  | d x =>
    cases r with
    | lst h t => cases e; exact ⟨_, _, rfl, S.sub _ _ h, t⟩
    | _ => cases e
def oL1 (f : List D → Option D) : OL
  | [x], st => match lst? x st with
    | some ds => (match f ds with
      | some y => .ok (.d y) st
      | none => .bad)
    | none => .bad
  | _, _ => .bad
theorem sim_L1 {f : List D → Option D} {r : List V → Hp → VK → Prop} (hr : ∀ (F H : Hp) (a : Addr) (vs : List V) (ds : List D) (y : D) (Q : VK), H a = some (.lst vs) → Reps G F vs ds → f ds = some y → (∀ v, Rep G F v y → Q v H) → r [.ref a] H Q) : SimC G r (oL1 f) := by
  intro Wv vs ds H F ad st Q rp S h
  cases rp with
  | nil => exact h.elim
  | @cons v x vs' ds' rp t =>
    cases t with
    | cons r2 t2 => exact h.elim
    | nil =>
      have h : Po G Wv H F ad (QV G Q) (match lst? x st with
        | some ds => (match f ds with
          | some y => .ok (.d y) st
          | none => .bad)
        | none => .bad) := h
      cases z : lst? x st with
      | none => rw [z] at h; exact h.elim
      | some ds =>
        rw [z] at h
        have h : Po G Wv H F ad (QV G Q) (match f ds with
          | some y => .ok (.d y) st
          | none => .bad) := h
        cases zz : f ds with
        | none => rw [zz] at h; exact h.elim
        | some y =>
          rw [zz] at h
          obtain ⟨a, ws, rfl, h1, h2⟩ := lst?_ok S rp z
          exact hr F H a ws ds y Q h1 h2 zz fun v rv => fin_same S h v rv
def oAll : OL := oL1 fun ds => (bls? ds).map fun bs => .bl (bs.all id)
def oAny : OL := oL1 fun ds => (bls? ds).map fun bs => .bl (bs.any id)
def oSum : OL := oL1 fun ds => (ints? ds).map fun bs => .int bs.sum
theorem cr_all' (hK : X.K = G.K) (hc : X.calm = true) : CallR X (.builtin "all") (rAll G.K) := by rw [← hK]; exact cr_all hc
theorem cr_any' (hK : X.K = G.K) (hc : X.calm = true) : CallR X (.builtin "any") (rAny G.K) := by rw [← hK]; exact cr_any hc
theorem cr_sum' (hK : X.K = G.K) (hc : X.calm = true) : CallR X (.builtin "sum") (rSum G.K) := by rw [← hK]; exact cr_sum hc
theorem sim_all : SimC G (rAll G.K) oAll := sim_L1 fun F H a vs ds y Q h t e q => by
  cases z : bls? ds with
  | none => rw [z] at e; cases e
  | some bs =>
    rw [z] at e
    cases e
    rw [bls?_ok t z] at h
    exact ⟨a, bs, rfl, SqL.of h, q _ (.bl _)⟩
theorem sim_any : SimC G (rAny G.K) oAny := sim_L1 fun F H a vs ds y Q h t e q => by
  cases z : bls? ds with
  | none => rw [z] at e; cases e
  | some bs =>
    rw [z] at e
    cases e
    rw [bls?_ok t z] at h
    exact ⟨a, bs, rfl, SqL.of h, q _ (.bl _)⟩
theorem sim_sum : SimC G (rSum G.K) oSum := sim_L1 fun F H a vs ds y Q h t e q => by
  cases z : ints? ds with
  | none => rw [z] at e; cases e
  | some bs =>
    rw [z] at e
    cases e
    rw [ints?_ok t z] at h
    exact ⟨a, bs, rfl, SqL.of h, q _ (.int _)⟩
/-! tuple(x), list(x) -/
def oTuple : OL
  | [.d (.tup xs)], st => .ok (.d (.tup xs)) st
  | [x], st => match lst? x st with
    | some ds => .ok (.d (.tup ds)) st
    | none => .bad
  | _, _ => .bad
def rTupleOf (K : PySem.W.Frag) : List V → Hp → VK → Prop := fun xs H Q => ∃ p ys, xs = [.ref p] ∧ ((SqL K H p ys ∧ ∀ l, H l = none → Q (.ref l) (upd H l (.tup ys))) ∨ (SqT K H p ys ∧ Q (.ref p) H))
def rListOf (K : PySem.W.Frag) : List V → Hp → VK → Prop := fun xs H Q => ∃ p ys, xs = [.ref p] ∧ (SqL K H p ys ∨ SqT K H p ys) ∧ ∀ l, H l = none → Q (.ref l) (upd H l (.lst ys))
theorem cr_tuple (hK : X.K = G.K) : CallR X (.type "tuple") (rTupleOf G.K) := by rw [← hK]; exact call_tuple_of
theorem cr_list (hK : X.K = G.K) : CallR X (.type "list") (rListOf G.K) := by rw [← hK]; exact call_list_of
theorem sim_tuple : SimC G (rTupleOf G.K) oTuple := by
  intro Wv vs ds H F ad st Q rp S h
  cases rp with
  | nil => exact h.elim
  | @cons v x vs' ds' rp t =>
    cases t with
    | cons r2 t2 => cases x with
      | ref n => exact h.elim
      | d x => cases x <;> exact h.elim
    | nil =>
      have go : Po G Wv H F ad (QV G Q) (match lst? x st with
        | some ds => .ok (.d (.tup ds)) st
        | none => .bad) → rTupleOf G.K [v] H Q := by
        intro h
        cases z : lst? x st with
        | none => rw [z] at h; exact h.elim
        | some ds =>
          rw [z] at h
          obtain ⟨a, ws, rfl, h1, h2⟩ := lst?_ok S rp z
          exact ⟨a, ws, rfl, .inl ⟨SqL.of h1, fun l hl => fin_new S hl (.tup (SqT.of upd_same) (h2.same (ext_new S hl).fz)) h⟩⟩
      cases x with
      | ref n => exact go h
      | d x => cases x with
        | tup xs => cases rp with
          | tup h1 t1 => exact ⟨_, _, rfl, .inr ⟨sqT_same S.sub h1, fin_same S h _ (.tup h1 t1)⟩⟩
        | _ => exact go h
def oList : OL
  | [x], st => match itemsOf x st with
    | some xs => (match ds? xs with
      | some ds => .ok (.d (.lst ds)) st
      | none => .bad)
    | none => .bad
  | _, _ => .bad
theorem sim_list : SimC G (rListOf G.K) oList := by
  intro Wv vs ds H F ad st Q rp S h
  cases rp with
  | nil => exact h.elim
  | @cons v x vs' ds' rp t =>
    cases t with
    | cons r2 t2 => exact h.elim
    | nil =>
      have h : Po G Wv H F ad (QV G Q) (match itemsOf x st with
        | some xs => (match ds? xs with
          | some ds => .ok (.d (.lst ds)) st
          | none => .bad)
        | none => .bad) := h
      cases z : itemsOf x st with
      | none => rw [z] at h; exact h.elim
      | some xs =>
        rw [z] at h
        have h : Po G Wv H F ad (QV G Q) (match ds? xs with
          | some ds => .ok (.d (.lst ds)) st
          | none => .bad) := h
        cases zz : ds? xs with
        | none => rw [zz] at h; exact h.elim
        | some ds =>
          rw [zz] at h
          obtain ⟨a, ws, rfl, h1, h2⟩ := itemsOf_ok S rp z
          exact ⟨a, ws, rfl, h1, fun l hl => fin_new S hl (.lst upd_same ((repVs_ds h2 zz).same (ext_new S hl).fz)) h⟩
/-- list(x), to be changed -/
def oListC : OL
  | [x], st => match itemsOf x st with
    | some xs => .ok (.ref st.length) (st ++ [.lst xs])
    | none => .bad
  | _, _ => .bad
theorem sim_listC : SimC G (rListOf G.K) oListC := by
  intro Wv vs ds H F ad st Q rp S h
  cases rp with
  | nil => exact h.elim
  | @cons v x vs' ds' rp t =>
    cases t with
    | cons r2 t2 => exact h.elim
    | nil =>
      have h : Po G Wv H F ad (QV G Q) (match itemsOf x st with
        | some xs => .ok (.ref st.length) (st ++ [.lst xs])
        | none => .bad) := h
      cases z : itemsOf x st with
      | none => rw [z] at h; exact h.elim
      | some xs =>
        rw [z] at h
        obtain ⟨a, ws, rfl, h1, h2⟩ := itemsOf_ok S rp z
        exact ⟨a, ws, rfl, h1, fun l hl => fin_cell (m := .lst xs) S hl ⟨ws, upd_same, RepVs.ext (ext_cell S (o := .lst ws) hl) h2⟩ h⟩
/-! isinstance -/
inductive Tag where
  | ty (n : String) | cl (c : String)
def tagOf : Va → Sto → Option Tag
  | .d .non, _ => some (.ty "NoneType")
  | .d (.bl _), _ => some (.ty "bool")
  | .d (.int _), _ => some (.ty "int")
  | .d (.str _), _ => some (.ty "str")
  | .d (.lst _), _ => some (.ty "list")
  | .d (.tup _), _ => some (.ty "tuple")
  | .d (.obj c _), _ => some (.cl c)
  | .ref n, st => match st[n]? with
    | some (.lst _) => some (.ty "list")
    | some (.obj c _) => some (.cl c)
    | _ => none
  | _, _ => none
def Tag.val (G : Ga) : Tag → Value
  | .ty n => .type n
  | .cl c => .ref (G.ca c)
theorem tyT' {K : PySem.W.Frag} {H : Hp} {a : Addr} {xs : List V} (h : SqT K H a xs) : TyX K H (.ref a) (.type "tuple") := by
  rcases h with (h | ⟨o, h⟩) | ⟨o, its, n, h1, h2, _⟩
  · exact .base (.tup h)
  · exact .fTuple h
  · exact .kTuple h1 h2
theorem ty_ins {H : Hp} {a dx : Addr} {vfs : List (Str × V)} {c : String} (hc : c ∈ G.cs) (h : H a = some (.ins (G.ca c) dx vfs)) : TyX G.K H (.ref a) (.ref (G.ca c)) :=
  .base (.ins h (G.cok c hc).cl (G.cok c hc).tc (G.cok c hc).tg (G.cok c hc).tk (G.cok c hc).tm)
theorem tagOf_ok {H F : Hp} {ad : List Addr} {st : Sto} {v : V} {x : Va} {g : Tag} (S : SR G H F ad st) (r : RepV G F ad v x) (e : tagOf x st = some g) : TyX G.K H v (g.val G) ∧ (∀ c, g = .cl c → c ∈ G.cs) ∧ (∀ n, g = .ty n → n ∈ ["int", "bool", "str", "list", "tuple", "dict", "NoneType"]) := by
  cases x with
  | ref n =>
    obtain ⟨a, ha, rfl⟩ := r
    have e : (match st[n]? with
      | some (.lst _) => some (.ty "list")
      | some (.obj c _) => some (.cl c)
      | _ => none) = some g := e
    cases z : st[n]? with
    | none => rw [z] at e; cases e
    | some o =>
      rw [z] at e
      cases o with
      | lst xs =>
        obtain ⟨vs, h1, h2⟩ := S.get ha z
        cases e
        exact ⟨.base (.lst h1), fun c z => (by cases z), fun n z => (by cases z; decide)⟩
      | obj c fs =>
        obtain ⟨hc, dx, vfs, h1, h2⟩ := S.get ha z
        cases e
        exact ⟨ty_ins hc h1, fun c z => (by cases z; exact hc), fun n z => (by cases z)⟩
      | dct _ => cases e
  | d x =>
    cases r with
    | non => cases e; exact ⟨.base .non, fun c z => (by cases z), fun n z => (by cases z; decide)⟩
    | bl b => cases e; exact ⟨.base (.bl b), fun c z => (by cases z), fun n z => (by cases z; decide)⟩
    | int i => cases e; exact ⟨.base (.int i), fun c z => (by cases z), fun n z => (by cases z; decide)⟩
    | str x => cases e; exact ⟨.base (.str x), fun c z => (by cases z), fun n z => (by cases z; decide)⟩
    | lst h t => cases e; exact ⟨.base (.lst (S.sub _ _ h)), fun c z => (by cases z), fun n z => (by cases z; decide)⟩
    | tup h t => cases e; exact ⟨tyT' (sqT_same S.sub h), fun c z => (by cases z), fun n z => (by cases z; decide)⟩
    | obj hc h t => cases e; exact ⟨ty_ins hc (S.sub _ _ h), fun c z => (by cases z; exact hc), fun n z => (by cases z)⟩
    | cls c _ => cases e
    | ty n => cases e
    | lck h => cases e
    | idn h => cases e
/-- the answer for one class -/
def isi1 : Tag → D → Option Bool
  | .ty n, .ty T => if T ∈ ["int", "bool", "str", "list", "tuple", "dict"] then some (n == T || (n == "bool" && T == "int")) else none
  | .cl _, .ty T => if T ∈ ["int", "bool", "str", "list", "tuple", "dict"] then some false else none
  | .ty _, .cls _ => some false
  | .cl c, .cls e => some (decide (c = e))
  | _, _ => none
theorem isi1_ok {g : Tag} {t : D} {b : Bool} {F : Hp} {v : V} (e : isi1 g t = some b) (hg : ∀ c, g = .cl c → c ∈ G.cs) (hn : ∀ n, g = .ty n → n ∈ ["int", "bool", "str", "list", "tuple", "dict", "NoneType"]) (ht : ∀ c, t = .cls c → c ∈ G.cs) (r : Rep G F v t) : ∃ u, ClsV v u ∧ PySem.W.kitOne G.K (g.val G) u = some b := by
  cases g with
  | ty n =>
    cases t with
    | ty T =>
      cases r
      have e : (if T ∈ ["int", "bool", "str", "list", "tuple", "dict"] then some (n == T || (n == "bool" && T == "int")) else none) = some b := e
      split at e
      · rename_i hT
        refine ⟨_, .ty T, ?_⟩
        have h1 := hn n rfl
        cases e
        simp only [List.mem_cons, List.not_mem_nil, or_false] at h1 hT
        rcases h1 with h1 | h1 | h1 | h1 | h1 | h1 | h1 <;> rcases hT with hT | hT | hT | hT | hT | hT <;> subst h1 hT <;> exact kit_ty (by decide +kernel)
      · cases e
    | cls c =>
      cases r
      cases e
      exact ⟨_, .own _, (G.cok c (ht c rfl)).i n (hn n rfl)⟩
    | _ => cases e
  | cl c =>
    cases t with
    | ty T =>
      cases r
      have e : (if T ∈ ["int", "bool", "str", "list", "tuple", "dict"] then some false else none) = some b := e
      split at e
      · rename_i hT
        cases e
        exact ⟨_, .ty T, (G.cok c (hg c rfl)).o T hT⟩
      · cases e
    | cls k =>
      cases r
      cases e
      exact ⟨_, .own _, G.kit c (hg c rfl) k (ht k rfl)⟩
    | _ => cases e
def isiA (g : Tag) : List D → Option Bool
  | [] => some false
  | t :: ts => match isi1 g t, isiA g ts with
    | some a, some b => some (a || b)
    | _, _ => none
end

section
variable {G : Ga} {W : L2.WX} {X : Cx}
def oIsi : OL
  | [x, .d t], st => match tagOf x st with
    | some g => (match isi1 g t with
      | some b => .ok (.d (.bl b)) st
      | none => .bad)
    | none => .bad
  | _, _ => .bad
theorem cr_isi (hK : X.K = G.K) : CallR X (.builtin "isinstance") (rIsi G.K) := by rw [← hK]; exact call_isi
theorem sim_isi : SimC G (rIsi G.K) oIsi := by
  intro Wv vs ds H F ad st Q rp S h
  cases rp with
  | nil => exact h.elim
  | @cons v x vs' ds' rp t =>
    cases t with
    | nil => exact h.elim
    | @cons v2 y _ _ rq t =>
      cases y with
      | ref n => exact h.elim
      | d y => cases t with
        | cons _ _ => exact h.elim
        | nil =>
          have h : Po G Wv H F ad (QV G Q) (match tagOf x st with
            | some g => (match isi1 g y with
              | some b => .ok (.d (.bl b)) st
              | none => .bad)
            | none => .bad) := h
          cases z : tagOf x st with
          | none => rw [z] at h; exact h.elim
          | some g =>
            rw [z] at h
            have h : Po G Wv H F ad (QV G Q) (match isi1 g y with
              | some b => .ok (.d (.bl b)) st
              | none => .bad) := h
            cases zz : isi1 g y with
            | none => rw [zz] at h; exact h.elim
            | some b =>
              rw [zz] at h
              obtain ⟨h1, h2, h3⟩ := tagOf_ok S rp z
              have h4 : ∀ c, y = .cls c → c ∈ G.cs := fun c e => by
                subst e
                cases rq with
                | cls _ hc => exact hc
              obtain ⟨u, h5, h6⟩ := isi1_ok zz h2 h3 h4 rq
              exact ⟨v, v2, _, u, b, rfl, h5, h1, h6, fin_same S h _ (.bl _)⟩
/-- isinstance(x, (list, tuple)) -/
def mIsiLT (a : ME) : ME := fun ρ st => (a ρ st).bind fun x st => match tagOf x st with
  | some (.ty n) => .ok (.d (.bl (n == "list" || n == "tuple"))) st
  | some (.cl _) => .ok (.d (.bl false)) st
  | none => .bad
theorem kitLT {g : Tag} (hg : ∀ c, g = .cl c → c ∈ G.cs) (hn : ∀ n, g = .ty n → n ∈ ["int", "bool", "str", "list", "tuple", "dict", "NoneType"]) :
    PySem.W.kitAny G.K (g.val G) [.type "list", .type "tuple"] = some (match g with | .ty n => n == "list" || n == "tuple" | .cl _ => false) := by
  cases g with
  | cl c => exact kitAny_cons (b := false) ((G.cok c (hg c rfl)).o "list" (by decide)) (fun _ => kitAny_cons (b := false) ((G.cok c (hg c rfl)).o "tuple" (by decide)) (fun _ => kitAny_nil) (fun z => by cases z)) (fun z => by cases z)
  | ty n =>
    have h1 := hn n rfl
    simp only [List.mem_cons, List.not_mem_nil, or_false] at h1
    rcases h1 with h1 | h1 | h1 | h1 | h1 | h1 | h1 <;> subst h1
    · exact kitAny_cons (b := false) (kit_ty (by decide +kernel)) (fun _ => kitAny_cons (b := false) (kit_ty (by decide +kernel)) (fun _ => kitAny_nil) (fun z => by cases z)) (fun z => by cases z)
    · exact kitAny_cons (b := false) (kit_ty (by decide +kernel)) (fun _ => kitAny_cons (b := false) (kit_ty (by decide +kernel)) (fun _ => kitAny_nil) (fun z => by cases z)) (fun z => by cases z)
    · exact kitAny_cons (b := false) (kit_ty (by decide +kernel)) (fun _ => kitAny_cons (b := false) (kit_ty (by decide +kernel)) (fun _ => kitAny_nil) (fun z => by cases z)) (fun z => by cases z)
    · exact kitAny_cons (b := true) (kit_ty (by decide +kernel)) (fun z => by cases z) (fun _ => rfl)
    · exact kitAny_cons (b := false) (kit_ty (by decide +kernel)) (fun _ => kitAny_cons (b := true) (kit_ty (by decide +kernel)) (fun z => by cases z) (fun _ => rfl)) (fun z => by cases z)
    · exact kitAny_cons (b := false) (kit_ty (by decide +kernel)) (fun _ => kitAny_cons (b := false) (kit_ty (by decide +kernel)) (fun _ => kitAny_nil) (fun z => by cases z)) (fun z => by cases z)
    · exact kitAny_cons (b := false) (kit_ty (by decide +kernel)) (fun _ => kitAny_cons (b := false) (kit_ty (by decide +kernel)) (fun _ => kitAny_nil) (fun z => by cases z)) (fun z => by cases z)
theorem de_isiLT {a l t : Expr} {x : Str} {x1} {p p2 pos : Pos} {ma : ME} (hK : X.K = G.K) (hg : Gl X x) (hm : X.mg x = none) (hv : bootBuiltins x = some (.builtin "isinstance")) (ha : DE G W X a ma) (hl : PE X l (tC (.ty "list"))) (ht : PE X t (tC (.ty "tuple")))
    (hn : x ≠ "__name__" := by decide) (hdb : (x == ("__debug__" : Str)) = false := by decide)
    (h1 : starEach [l, t] X.env = (false, eval l X.env) :: starEach [t] X.env := by rfl) (h2 : starEach [t] X.env = (false, eval t X.env) :: starEach [] X.env := by rfl) (h3 : starEach [.Tuple [l, t] x1 p2] X.env = (false, eval (.Tuple [l, t] x1 p2) X.env) :: starEach [] X.env := by rfl)
    (he : starEach [a, .Tuple [l, t] x1 p2] X.env = (false, eval a X.env) :: starEach [.Tuple [l, t] x1 p2] X.env := by rfl) (hpl : (backTo pos (starEach [.Tuple [l, t] x1 p2] X.env)).any (·.1) = false := by rfl) : DE G W X (.Call (.Name x p) [a, .Tuple [l, t] x1 p2] [] pos) (mIsiLT ma) := by
  obtain ⟨ta, pa, sa⟩ := ha
  refine ⟨_, pe_callB (r := rIsiT G.K) (by rw [← hK]; exact call_isiT) hg hm hv (pa_cons pa (pa_cons (pe_tup (pa_cons hl (pa_cons ht pa_nil h2) h1)) pa_nil h3) he) hn hdb he hpl, ?_⟩
  intro σ ρ H F ad st Q R S h
  refine simE_bind sa R S h fun y v st1 H1 F1 ad1 _ R1 S1 rv h1 => ?_
  refine ⟨(by show 2 ≤ sizeLine; decide), fun q hq => ?_⟩
  cases z : tagOf y st1 with
  | none => rw [z] at h1; exact h1.elim
  | some g =>
    rw [z] at h1
    have E := ext_new S1 (o := .tup [.ty "list", .ty "tuple"]) hq
    have S2 := S1.new (o := .tup [.ty "list", .ty "tuple"]) hq
    obtain ⟨k1, k2, k3⟩ := tagOf_ok S2 (rv.ext E) z
    refine ⟨v, q, _, _, _, _, rfl, upd_same, .cons (.ty _) (.cons (.ty _) .nil), k1, kitLT k2 k3, ?_⟩
    cases g with
    | ty n => exact h1 _ _ _ E S2 _ (.bl _)
    | cl c => exact h1 _ _ _ E S2 _ (.bl _)
/-! == of data -/
mutual
def D.eqv : D → D → Bool
  | .non, .non => true
  | .bl a, .bl b => a == b
  | .bl a, .int j => (if a then 1 else 0) == j
  | .int i, .bl b => i == (if b then 1 else 0)
  | .int i, .int j => i == j
  | .str x, .str y => x == y
  | .lst xs, .lst ys => D.eqvs xs ys
  | .tup xs, .tup ys => D.eqvs xs ys
  | _, _ => false
def D.eqvs : List D → List D → Bool
  | [], [] => true
  | x :: xs, y :: ys => D.eqv x y && D.eqvs xs ys
  | _, _ => false
end
mutual
def toP : D → PyData
  | .non => .none
  | .bl b => .bool b
  | .int i => .int i
  | .str x => .str x
  | .lst xs => .list (toPs xs)
  | .tup xs => .tuple (toPs xs)
  | _ => .dict []
def toPs : List D → List PyData
  | [] => []
  | x :: xs => toP x :: toPs xs
end
mutual
def okd : Nat → D → Bool
  | _, .non => true
  | _, .bl _ => true
  | _, .int _ => true
  | _, .str x => PyData.strOk x
  | k, .lst xs => decide (k ≠ 0) && okds (k - 1) xs
  | k, .tup xs => decide (k ≠ 0) && okds (k - 1) xs
  | _, _ => false
def okds : Nat → List D → Bool
  | _, [] => true
  | k, x :: xs => okd k x && okds k xs
end
mutual
theorem okd_dp {F H : Hp} (S : Same F H) : ∀ {k : Nat} {x : D} {v : V}, okd k x = true → Rep G F v x → Dp G.K H v (toP x) ∧ (toP x).canLay0 = true ∧ (toP x).depth ≤ k
  | k, .non, v, _, r => by cases r; exact ⟨.non, rfl, Nat.zero_le _⟩
  | k, .bl b, v, _, r => by cases r; exact ⟨.bl b, rfl, Nat.zero_le _⟩
  | k, .int i, v, _, r => by cases r; exact ⟨.int i, rfl, Nat.zero_le _⟩
  | k, .str x, v, h, r => by cases r; exact ⟨.str x, h, Nat.zero_le _⟩
  | k, .lst xs, v, h, r => by
    cases r with
    | @lst a vs _ h1 t =>
      obtain ⟨h2, h3⟩ := Bool.and_eq_true_iff.mp (show (decide (k ≠ 0) && okds (k - 1) xs) = true from h)
      obtain ⟨e1, e2, e3⟩ := okds_dp S (xs := xs) h3 t
      have hk : k ≠ 0 := of_decide_eq_true h2
      exact ⟨.lst (SqL.of (S _ _ h1)) e1, e2, by show PyData.depthAll (toPs xs) + 1 ≤ k; omega⟩
  | k, .tup xs, v, h, r => by
    cases r with
    | @tup a vs _ h1 t =>
      obtain ⟨h2, h3⟩ := Bool.and_eq_true_iff.mp (show (decide (k ≠ 0) && okds (k - 1) xs) = true from h)
      obtain ⟨e1, e2, e3⟩ := okds_dp S (xs := xs) h3 t
      have hk : k ≠ 0 := of_decide_eq_true h2
      exact ⟨.tup (sqT_same S h1) e1, e2, by show PyData.depthAll (toPs xs) + 1 ≤ k; omega⟩
  | k, .obj _ _, v, h, r => by simp [okd] at h
  | k, .dct _, v, h, r => by simp [okd] at h
  | k, .cls _, v, h, r => by simp [okd] at h
  | k, .ty _, v, h, r => by simp [okd] at h
  | k, .lck _, v, h, r => by simp [okd] at h
  | k, .idn _ _, v, h, r => by simp [okd] at h
theorem okds_dp {F H : Hp} (S : Same F H) : ∀ {k : Nat} {xs : List D} {vs : List V}, okds k xs = true → Reps G F vs xs → DpAll G.K H vs (toPs xs) ∧ PyData.canLayAll0 (toPs xs) = true ∧ PyData.depthAll (toPs xs) ≤ k
  | k, [], vs, _, r => by cases r; exact ⟨.nil, rfl, Nat.zero_le _⟩
  | k, x :: xs, vs, h, r => by
    cases r with
    | @cons v _ vs _ r t =>
      obtain ⟨h2, h3⟩ := Bool.and_eq_true_iff.mp (show (okd k x && okds k xs) = true from h)
      obtain ⟨e1, e2, e3⟩ := okd_dp S (x := x) h2 r
      obtain ⟨f1, f2, f3⟩ := okds_dp S (xs := xs) h3 t
      exact ⟨.cons e1 f1, by show (PyData.canLay0 (toP x) && PyData.canLayAll0 (toPs xs)) = true; rw [e2, f2]; rfl, Nat.max_le.mpr ⟨e3, f3⟩⟩
end
mutual
theorem eqv_toP : ∀ {k l : Nat} {x y : D}, okd k x = true → okd l y = true → PyData.eqv (toP x) (toP y) = D.eqv x y
  | k, l, .obj _ _, y, h, _ => by simp [okd] at h
  | k, l, .dct _, y, h, _ => by simp [okd] at h
  | k, l, .cls _, y, h, _ => by simp [okd] at h
  | k, l, .ty _, y, h, _ => by simp [okd] at h
  | k, l, .lck _, y, h, _ => by simp [okd] at h
  | k, l, .idn _ _, y, h, _ => by simp [okd] at h
  | k, l, .non, y, _, h2 => by cases y <;> first | (simp [okd] at h2; done) | simp [toP, PyData.eqv, D.eqv]
  | k, l, .bl b, y, _, h2 => by cases y <;> first | (simp [okd] at h2; done) | simp [toP, PyData.eqv, D.eqv]
  | k, l, .int i, y, _, h2 => by cases y <;> first | (simp [okd] at h2; done) | simp [toP, PyData.eqv, D.eqv]
  | k, l, .str x, y, _, h2 => by cases y <;> first | (simp [okd] at h2; done) | simp [toP, PyData.eqv, D.eqv]
  | k, l, .lst xs, y, h1, h2 => by
    cases y with
    | lst ys =>
      have e1 := (Bool.and_eq_true_iff.mp (show (decide (k ≠ 0) && okds (k - 1) xs) = true from h1)).2
      have e2 := (Bool.and_eq_true_iff.mp (show (decide (l ≠ 0) && okds (l - 1) ys) = true from h2)).2
      have := eqvs_toP (xs := xs) (ys := ys) e1 e2
      simpa [toP, PyData.eqv, D.eqv] using this
    | _ => first | (simp [okd] at h2; done) | simp [toP, PyData.eqv, D.eqv]
  | k, l, .tup xs, y, h1, h2 => by
    cases y with
    | tup ys =>
      have e1 := (Bool.and_eq_true_iff.mp (show (decide (k ≠ 0) && okds (k - 1) xs) = true from h1)).2
      have e2 := (Bool.and_eq_true_iff.mp (show (decide (l ≠ 0) && okds (l - 1) ys) = true from h2)).2
      have := eqvs_toP (xs := xs) (ys := ys) e1 e2
      simpa [toP, PyData.eqv, D.eqv] using this
    | _ => first | (simp [okd] at h2; done) | simp [toP, PyData.eqv, D.eqv]
theorem eqvs_toP : ∀ {k l : Nat} {xs ys : List D}, okds k xs = true → okds l ys = true → PyData.eqvAll (toPs xs) (toPs ys) = D.eqvs xs ys
  | k, l, [], [], _, _ => by simp [toPs, PyData.eqvAll, D.eqvs]
  | k, l, [], _ :: _, _, _ => by simp [toPs, PyData.eqvAll, D.eqvs]
  | k, l, _ :: _, [], _, _ => by simp [toPs, PyData.eqvAll, D.eqvs]
  | k, l, x :: xs, y :: ys, h1, h2 => by
    obtain ⟨a1, a2⟩ := Bool.and_eq_true_iff.mp (show (okd k x && okds k xs) = true from h1)
    obtain ⟨b1, b2⟩ := Bool.and_eq_true_iff.mp (show (okd l y && okds l ys) = true from h2)
    simp only [toPs, PyData.eqvAll, D.eqvs]
    rw [eqv_toP (x := x) (y := y) a1 b1, eqvs_toP (xs := xs) (ys := ys) a2 b2]
end
theorem okds_all {k : Nat} : ∀ xs : List D, okds k xs = xs.all (okd k)
  | [] => rfl
  | x :: xs => by
    show (okd k x && okds k xs) = _
    rw [okds_all xs]
    rfl
/-- frozen data behind a value: a cell of data, too -/
def dat? : Va → Sto → Option D
  | .d x, _ => some x
  | .ref n, st => match st[n]? with
    | some (.lst xs) => (ds? xs).map D.lst
    | _ => none
def isSeqD : D → Bool
  | .lst _ => true
  | .tup _ => true
  | _ => false
/-- one and the same list or tuple -/
def sameO : Va → Va → Bool
  | .d (.idn x a), .d (.idn y b) => isSeqD x && decide (a = b)
  | _, _ => false
def oEqN (neg : Bool) : O2 := fun x y st => match dat? (strip x) st, dat? (strip y) st with
  | some a, some b => if okd 60 a = true ∧ okd 60 b = true then .ok (.d (.bl (if neg then !D.eqv a b else D.eqv a b))) st else .bad
  | _, _ => .bad
def oEq : O2 := fun x y st => if sameO x y = true then .ok (.d (.bl true)) st else oEqN false x y st
def oNe : O2 := oEqN true
theorem dat?_ok {k : Nat} {H F : Hp} {ad : List Addr} {st : Sto} {v : V} {x : Va} {a : D} (S : SR G H F ad st) (r : RepV G F ad v x) (e : dat? x st = some a) (h : okd k a = true) : Dp G.K H v (toP a) ∧ (toP a).canLay0 = true ∧ (toP a).depth ≤ k := by
  cases x with
  | d x => cases e; exact okd_dp S.sub h r
  | ref n =>
    obtain ⟨p, hp, rfl⟩ := r
    have e : (match st[n]? with
      | some (.lst xs) => (ds? xs).map D.lst
      | _ => none) = some a := e
    cases z : st[n]? with
    | none => rw [z] at e; cases e
    | some o =>
      rw [z] at e
      cases o with
      | lst xs =>
        have e : (ds? xs).map D.lst = some a := e
        obtain ⟨vs, h1, h2⟩ := S.get hp z
        cases zz : ds? xs with
        | none => rw [zz] at e; cases e
        | some ds =>
          rw [zz] at e
          cases e
          obtain ⟨h3, h4⟩ := Bool.and_eq_true_iff.mp (show (decide (k ≠ 0) && okds (k - 1) ds) = true from h)
          obtain ⟨e1, e2, e3⟩ := okds_dp S.sub (xs := ds) h4 (repVs_ds h2 zz)
          have hk : k ≠ 0 := of_decide_eq_true h3
          exact ⟨.lst (SqL.of h1) e1, e2, by show PyData.depthAll (toPs ds) + 1 ≤ k; omega⟩
      | _ => cases e
theorem shaped_of {d : PyData} {k : Nat} (h1 : d.canLay0 = true) (h2 : d.depth ≤ k) (hk : k ≤ 64) : SeqAt.shaped d = true := by
  unfold SeqAt.shaped
  rw [h1, decide_eq_true (Nat.le_trans h2 hk)]
  rfl
def rEqS (K : PySem.W.Frag) : R2 := fun x y H Q => ∃ a xs, x = .ref a ∧ y = .ref a ∧ (SqL K H a xs ∨ SqT K H a xs) ∧ Q (.bl true) H
theorem op_eqS (hu : X.A.units < cLine) : OpR X (compareOp .Eq) (rEqS X.K) := by
  intro pins s σ H x y v u Q I rx ry h
  obtain ⟨a, xs, rfl, rfl, h, q⟩ := h
  cases rx
  cases ry
  have fin : ∀ b : Bool, b = true → EP X pins σ Q (.bool b) s := fun b e => by subst e; exact ⟨.bl true, H, I, rfl, q⟩
  rcases h with h | h
  · obtain ⟨its, r, p, _⟩ := I.list h
    refine SeqAt.eq_listAt (e := fun _ => true) p.isList p.isList rfl hu (fun j h1 h2 => SeqAt.EqAt.same _) (fin _ (List.all_eq_true.mpr fun _ _ => rfl))
  · obtain ⟨its, r, p, _⟩ := I.tuple h
    refine SeqAt.eq_tupleAt (e := fun _ => true) (show s.heap.IsTuple a its.toArray from p) (show s.heap.IsTuple a its.toArray from p) hu (fun j h1 h2 => SeqAt.EqAt.same _) (fin _ ?_)
    rw [List.all_eq_true.mpr fun _ _ => rfl, beq_self_eq_true]
    rfl
def rEqA (K : PySem.W.Frag) : R2 := fun x y H Q => rEqD K x y H Q ∨ rEqS K x y H Q
theorem op_eq' (hK : X.K = G.K) (hu : X.A.units + 64 < cLine) : OpR X (compareOp .Eq) (rEqA G.K) := by rw [← hK]; exact (op_eqD hu).or (op_eqS (by omega))
theorem op_ne' (hK : X.K = G.K) (hu : X.A.units + 64 < cLine) : OpR X (compareOp .NotEq) (rNeD G.K) := by rw [← hK]; exact op_neD hu
theorem sim_eqN {neg : Bool} {x y : V} {dx dy : Va} {H F : Hp} {ad : List Addr} {st : Sto} {Q : VK} {Wv : Value → Option Addr → Hp → Prop} (rx : RepV G F ad x dx) (ry : RepV G F ad y dy) (S : SR G H F ad st) (h : Po G Wv H F ad (QV G Q) (oEqN neg dx dy st)) :
    ∃ d e, Dp G.K H x d ∧ Dp G.K H y e ∧ SeqAt.shaped d = true ∧ SeqAt.shaped e = true ∧ Q (.bl (if neg then !PyData.eqv d e else PyData.eqv d e)) H := by
  unfold oEqN at h
  cases z1 : dat? (strip dx) st with
  | none => rw [z1] at h; exact h.elim
  | some a =>
    cases z2 : dat? (strip dy) st with
    | none => rw [z1, z2] at h; exact h.elim
    | some b =>
      rw [z1, z2] at h
      have h : Po G Wv H F ad (QV G Q) (if okd 60 a = true ∧ okd 60 b = true then .ok (.d (.bl (if neg then !D.eqv a b else D.eqv a b))) st else .bad) := h
      split at h
      · rename_i hc
        obtain ⟨a1, a2, a3⟩ := dat?_ok S (strip_ok rx) z1 hc.1
        obtain ⟨b1, b2, b3⟩ := dat?_ok S (strip_ok ry) z2 hc.2
        refine ⟨_, _, a1, b1, shaped_of a2 a3 (by decide), shaped_of b2 b3 (by decide), ?_⟩
        rw [eqv_toP hc.1 hc.2]
        exact fin_same S h _ (.bl _)
      · exact h.elim
theorem sim_eq : SimR2 G (rEqA G.K) oEq := by
  intro Wv x y dx dy H F ad st Q rx ry S h
  unfold oEq at h
  split at h
  · rename_i hs
    cases dx with
    | ref n => simp [sameO] at hs
    | d dx => cases dy with
      | ref n => cases dx <;> simp [sameO] at hs
      | d dy => cases rx with
        | @idn a u r1 => cases ry with
          | @idn b w r2 =>
            have hs : (isSeqD u && decide (a = b)) = true := hs
            obtain ⟨h1, h2⟩ := Bool.and_eq_true_iff.mp hs
            have e : a = b := of_decide_eq_true h2
            subst e
            right
            cases r1 with
            | lst q t => exact ⟨a, _, rfl, rfl, .inl (SqL.of (S.sub _ _ q)), fin_same S h _ (.bl _)⟩
            | tup q t => exact ⟨a, _, rfl, rfl, .inr (sqT_same S.sub q), fin_same S h _ (.bl _)⟩
            | _ => cases h1
          | _ => simp [sameO] at hs
        | _ => simp [sameO] at hs
  · exact .inl (sim_eqN (neg := false) rx ry S h)
theorem sim_ne : SimR2 G (rNeD G.K) oNe := fun Wv x y dx dy H F ad st Q rx ry S h => sim_eqN (neg := true) rx ry S h
/-! is None -/
def isNon : Va → Bool
  | .d .non => true
  | _ => false
def mIsN (a : ME) : ME := fun ρ st => (a ρ st).bind fun x st => .ok (.d (.bl (isNon x))) st
def mNotN (a : ME) : ME := fun ρ st => (a ρ st).bind fun x st => .ok (.d (.bl (!isNon x))) st
theorem isNon_ok {F : Hp} {ad : List Addr} {v : V} {x : Va} (r : RepV G F ad v x) : decide (v = .non) = isNon x := by
  cases x with
  | ref n => obtain ⟨a, _, rfl⟩ := r; rfl
  | d x => cases r <;> rfl
theorem de_isN {a : Expr} {j p pos : _} {ma : ME} (ha : DE G W X a ma) : DE G W X (.Compare a [.Is] [.Constant .none j p] pos) (mIsN ma) := by
  obtain ⟨ta, pa, sa⟩ := ha
  refine ⟨_, pe_cmpR op_isN pa pe_non (nomark _), ?_⟩
  intro σ ρ H F ad st Q R S h
  refine simE_bind sa R S h fun x v st1 H1 F1 ad1 _ R1 S1 rv h1 => ⟨rfl, ?_⟩
  rw [isNon_ok rv]
  exact fin_same S1 h1 _ (.bl _)
theorem de_notN {a : Expr} {j p pos : _} {ma : ME} (ha : DE G W X a ma) : DE G W X (.Compare a [.IsNot] [.Constant .none j p] pos) (mNotN ma) := by
  obtain ⟨ta, pa, sa⟩ := ha
  refine ⟨_, pe_cmpR op_notN pa pe_non (nomark _), ?_⟩
  intro σ ρ H F ad st Q R S h
  refine simE_bind sa R S h fun x v st1 H1 F1 ad1 _ R1 S1 rv h1 => ⟨rfl, ?_⟩
  rw [isNon_ok rv]
  exact fin_same S1 h1 _ (.bl _)
theorem dt_isN {a : Expr} {j p pos : _} {ma : ME} (ha : DE G W X a ma) : DT G W X (.Compare a [.Is] [.Constant .none j p] pos) (mTst (mIsN ma)) := by
  obtain ⟨ta, pa, sa⟩ := ha
  refine ⟨_, pt_cmpR op_isN pa pe_non (nomark _), ?_⟩
  refine sim_tst ?_
  intro σ ρ H F ad st Q R S h
  refine simE_bind sa R S h fun x v st1 H1 F1 ad1 _ R1 S1 rv h1 => ⟨rfl, ?_⟩
  rw [isNon_ok rv]
  exact fin_same S1 h1 _ (.bl _)
theorem dt_notN {a : Expr} {j p pos : _} {ma : ME} (ha : DE G W X a ma) : DT G W X (.Compare a [.IsNot] [.Constant .none j p] pos) (mTst (mNotN ma)) := by
  obtain ⟨ta, pa, sa⟩ := ha
  refine ⟨_, pt_cmpR op_notN pa pe_non (nomark _), ?_⟩
  refine sim_tst ?_
  intro σ ρ H F ad st Q R S h
  refine simE_bind sa R S h fun x v st1 H1 F1 ad1 _ R1 S1 rv h1 => ⟨rfl, ?_⟩
  rw [isNon_ok rv]
  exact fin_same S1 h1 _ (.bl _)
/-! x in a list, a tuple of flat things -/
def flatD : D → Bool
  | .non => true
  | .bl _ => true
  | .int _ => true
  | .str _ => true
  | _ => false
def oInN (neg : Bool) : O2 := fun x y st => match x, itemsOf y st with
  | .d a, some ys => (match ds? ys with
    | some ds => if flatD a = true ∧ ds.all flatD = true then .ok (.d (.bl (if neg then !ds.any (fun d => D.eqv d a) else ds.any (fun d => D.eqv d a)))) st else .bad
    | none => .bad)
  | _, _ => .bad
theorem flat_ok {F : Hp} {v : V} {x : D} (r : Rep G F v x) : flatV v = flatD x := by cases r <;> rfl
theorem flats_ok {F : Hp} : ∀ {vs : List V} {ds : List D}, Reps G F vs ds → vs.all flatV = ds.all flatD
  | _, _, .nil => rfl
  | _, _, .cons r t => by rw [List.all_cons, List.all_cons, flat_ok r, flats_ok t]
theorem eqV_ok {F : Hp} {v w : V} {x y : D} (r : Rep G F v x) (r2 : Rep G F w y) (h : flatD x = true) (h2 : flatD y = true) : eqV v w = D.eqv x y := by
  cases r <;> first | (simp [flatD] at h; done) | skip
  all_goals (cases r2 <;> first | (simp [flatD] at h2; done) | simp [eqV, D.eqv])
theorem any_ok {F : Hp} {w : V} {y : D} (r2 : Rep G F w y) (h2 : flatD y = true) : ∀ {vs : List V} {ds : List D}, Reps G F vs ds → ds.all flatD = true → inV w vs = ds.any fun d => D.eqv d y
  | _, _, .nil, _ => rfl
  | _, _, @Reps.cons _ _ v d vs ds r t, h => by
    obtain ⟨h3, h4⟩ := Bool.and_eq_true_iff.mp (show (flatD d && ds.all flatD) = true from h)
    have e := any_ok r2 h2 t h4
    unfold inV at e ⊢
    rw [List.any_cons, List.any_cons, eqV_ok r r2 h3 h2, e]
theorem op_in' (hK : X.K = G.K) : OpR X (compareOp .In) (rIn G.K false) := by rw [← hK]; exact op_in_seq
theorem op_notIn' (hK : X.K = G.K) : OpR X (compareOp .NotIn) (rIn G.K true) := by rw [← hK]; exact op_notIn_seq
theorem sim_inN {neg : Bool} : SimR2 G (rIn G.K neg) (oInN neg) := by
  intro Wv x y dx dy H F ad st Q rx ry S h
  cases dx with
  | ref n => exact h.elim
  | d a =>
    have h : Po G Wv H F ad (QV G Q) (match itemsOf dy st with
      | some ys => (match ds? ys with
        | some ds => if flatD a = true ∧ ds.all flatD = true then .ok (.d (.bl (if neg then !ds.any (fun d => D.eqv d a) else ds.any (fun d => D.eqv d a)))) st else .bad
        | none => .bad)
      | _ => .bad) := by
      unfold oInN at h
      split at h
      · rename_i ys e1 e2
        cases e1
        rw [e2]
        exact h
      · exact h.elim
    cases z : itemsOf dy st with
    | none => rw [z] at h; exact h.elim
    | some ys =>
      rw [z] at h
      have h : Po G Wv H F ad (QV G Q) (match ds? ys with
        | some ds => if flatD a = true ∧ ds.all flatD = true then .ok (.d (.bl (if neg then !ds.any (fun d => D.eqv d a) else ds.any (fun d => D.eqv d a)))) st else .bad
        | none => .bad) := h
      cases zz : ds? ys with
      | none => rw [zz] at h; exact h.elim
      | some ds =>
        rw [zz] at h
        have h : Po G Wv H F ad (QV G Q) (if flatD a = true ∧ ds.all flatD = true then .ok (.d (.bl (if neg then !ds.any (fun d => D.eqv d a) else ds.any (fun d => D.eqv d a)))) st else .bad) := h
        split at h
        · rename_i hc
          obtain ⟨p, vs, rfl, hq, rv⟩ := itemsOf_ok S ry z
          have t := repVs_ds rv zz
          refine ⟨p, vs, rfl, hq, by rw [flat_ok rx]; exact hc.1, by rw [flats_ok t]; exact hc.2, ?_⟩
          rw [any_ok rx hc.1 t hc.2]
          exact fin_same S h _ (.bl _)
        · exact h.elim
def oIn : O2 := oInN false
def oNotIn : O2 := oInN true
end

/-! ### calls of defs -/
section
variable {X : Cx} {CX : CXT} {k : Nat} {f C : Addr} {fd : FuncData} {ps : List Str} {sp : Sp} {dvs : List V} {ds : List Value} {E : L2.St → XK} {x m : Str} {p pos apos : Pos} {e o : Expr} {es : List Expr} {ta : TE} {t : TA}
theorem pe_callSD0 (F : FnOk X.prog X.w X.K X.mg X.base CX k f fd ps sp) (hr : Room k X.A) (hg : Gl X x) (hm : X.mg x = some (.ref f)) (hk : PySem.W.keepIn X.K (.ref f) = true) (hb : Binds X.K fd ps ds) (hd : Vals dvs ds) (hx : ∀ σ, PassesAt CX X σ (E σ))
    (hdb : (x == ("__debug__" : Str)) = false := by decide) : PE X (.Call (.Name x p) [] [] pos) (tCallSD sp dvs E tNil) := by
  refine ⟨fun pins s σ H Q I h => ?_⟩
  refine wpAny_Call_Name_kw (ld_glob I hg hm ?_ hdb)
  exact PySem.W.callWith_K0 I.kIn hk (run_fnSD (us := []) F hr hb hd (hx σ) I .nil h)
def tMethS (C : Addr) (m : Str) (sp : Sp) (dvs : List V) (E : L2.St → XK) (ta : TE) (t : TA) : TE := fun σ H Q => ta σ H fun x H1 => ∃ a dx fs, x = .ref a ∧ H1 a = some (.ins C dx fs) ∧ fs.lookup m = none ∧
  t σ H1 fun vs H2 => sp (x :: (vs ++ dvs)) H2 Q (E σ)
theorem pe_methSD {pl : Sem Bool} (he : PE X o ta) (c : Cls X.K C) (hm : Meth X.K C m f) (F : FnOk X.prog X.w X.K X.mg X.base CX k f fd ps sp) (hr : Room k X.A) (hb : Binds X.K fd ps ds) (hd : Vals dvs ds) (hx : ∀ σ, PassesAt CX X σ (E σ)) (ha : PA X (e :: es) t)
    (hst : starEach (e :: es) X.env = (false, eval e X.env) :: starEach es X.env := by rfl) (hpl : (backTo pos (starEach es X.env)).any (·.1) = false := by rfl)
    (ht : eval (.Call (.Attribute o m apos) (e :: es) [] pos) X.env = (do
      let ov ← eval o X.env
      standAt apos.atName
      let (f, first) ← holding [ov] (getMethod ov m pl)
      callWith pos f first (backTo pos (starEach (e :: es) X.env)) (backToKw pos (keywordEach [] X.env))) := by rfl) :
    PE X (.Call (.Attribute o m apos) (e :: es) [] pos) (tMethS C m sp dvs E ta t) := by
  refine ⟨fun pins s σ H Q I h => ?_⟩
  refine PySem.W.methodCall_KW (pl := pl) (thn (he.run pins s σ H _ I h) fun u s1 ⟨x, H1, I1, rx, a, dx, fs, ex, ea, l, q⟩ => ?_) ht
  subst ex
  obtain rfl : u = Value.ref a := rx
  refine getmeth_ok I1 ea c hm l ?_
  refine PySem.W.callWith_K (first := [.ref a]) (h₀ := X.base) I.ok.mod.kin hm.kp (thn (ha.run pos pins s1 σ H1 _ I1 q) fun us s2 ⟨vs, H2, I2, r, q2⟩ => ⟨I2.kIn, ?_⟩) hst hpl
  exact run_fnSD (us := .ref a :: us) (vs := .ref a :: vs) F hr hb hd (hx σ) I2 (.cons rfl r) q2
theorem pe_methSD0 {pl : Sem Bool} (he : PE X o ta) (c : Cls X.K C) (hm : Meth X.K C m f) (F : FnOk X.prog X.w X.K X.mg X.base CX k f fd ps sp) (hr : Room k X.A) (hb : Binds X.K fd ps ds) (hd : Vals dvs ds) (hx : ∀ σ, PassesAt CX X σ (E σ))
    (ht : eval (.Call (.Attribute o m apos) [] [] pos) X.env = (do
      let ov ← eval o X.env
      standAt apos.atName
      let (f, first) ← holding [ov] (getMethod ov m pl)
      callWith pos f first (backTo pos (starEach [] X.env)) (backToKw pos (keywordEach [] X.env))) := by rfl) :
    PE X (.Call (.Attribute o m apos) [] [] pos) (tMethS C m sp dvs E ta tNil) := by
  refine ⟨fun pins s σ H Q I h => ?_⟩
  refine PySem.W.methodCall_KW (pl := pl) (thn (he.run pins s σ H _ I h) fun u s1 ⟨x, H1, I1, rx, a, dx, fs, ex, ea, l, q⟩ => ?_) ht
  subst ex
  obtain rfl : u = Value.ref a := rx
  refine getmeth_ok I1 ea c hm l ?_
  exact PySem.W.callWith_K0 (first := [.ref a]) I1.kIn hm.kp (run_fnSD (us := [.ref a]) (vs := [.ref a]) F hr hb hd (hx σ) I1 (.cons rfl .nil) q)
def tMakeS (C : Addr) (sp : Sp) (dvs : List V) (E : L2.St → XK) (t : TA) : TE := fun σ H Q => t σ H fun vs H1 => ∀ x dx, H1 x = none → H1 dx = none → dx ≠ x →
  sp (.ref x :: (vs ++ dvs)) (upd (upd H1 dx (.own x)) x (.ins C dx [])) (fun v H2 => v = .non ∧ Q (.ref x) H2) (E σ)
theorem run_makeS {pins : List (Addr × Obj)} {σ : L2.St} {H : Hp} {s : Shared} {Q : VK} {us : List Value} {vs : List V} (M : Mk X.K C f) (F : FnOk X.prog X.w X.K X.mg X.base CX k f fd ps sp) (hr : Room (k + 1) X.A) (hb : Binds X.K fd ps ds) (hd : Vals dvs ds)
    (hx : PassesAt CX X σ (E σ)) (I : Inv X pins σ H s) (r : Vals vs us)
    (h : ∀ x dx, H x = none → H dx = none → dx ≠ x → sp (.ref x :: (vs ++ dvs)) (upd (upd H dx (.own x)) x (.ins C dx [])) (fun v H2 => v = .non ∧ Q (.ref x) H2) (E σ)) :
    wpAny (model X.prog X.w) X.A (call (.ref C) us) (EP X pins σ Q) X.xe s := by
  have hq := h (s.heap.objs.size + 1) s.heap.objs.size (I.hok.fresh (Nat.le_succ _)) (I.hok.fresh (Nat.le_refl _)) (Nat.ne_of_lt (Nat.lt_succ_self _))
  have I2 := Inv.made (C := C) I
  have r2 : Vals (V.ref (s.heap.objs.size + 1) :: (vs ++ dvs)) (Value.ref (s.heap.objs.size + 1) :: (us ++ ds)) := .cons rfl (r.append hd)
  have hl : (Value.ref (s.heap.objs.size + 1) :: us ++ ds).length = ps.length := by
    have e := r2.length
    rw [F.len _ _ _ _ hq] at e
    exact e.symm
  refine wpAny_call (make_map (f := f) I.kIn M.makes M.init (beq_iff_eq.mp M.fn) (codeAny_mono (F.run _ X.stack _ _ ⟨Value.ref (s.heap.objs.size + 1) :: us, []⟩ (Value.ref (s.heap.objs.size + 1) :: (us ++ ds)) _ _ (E σ) (hr.make C us [])
    (I2.env0.make C us []) (hb _ (Value.ref (s.heap.objs.size + 1) :: us) I2.kIn hl) r2 hq) fun r s' hq' => ?_))
  cases r with
  | error e => exact hx pins _ _ e s' I2 hq'
  | ok fl =>
    cases fl with
    | ret u =>
      obtain ⟨v, H', I3, rv, ev, q3⟩ := I2.after hq'
      subst ev
      exact ⟨rv, ⟨V.ref (s.heap.objs.size + 1), H', I3, rfl, q3⟩⟩
    | next => exact False.elim hq'
    | brk => exact False.elim hq'
    | cont => exact False.elim hq'
theorem pe_makeSD (M : Mk X.K C f) (F : FnOk X.prog X.w X.K X.mg X.base CX k f fd ps sp) (hr : Room (k + 1) X.A) (hg : Gl X x) (hm : X.mg x = some (.ref C)) (hb : Binds X.K fd ps ds) (hd : Vals dvs ds) (hx : ∀ σ, PassesAt CX X σ (E σ))
    (ha : PA X (e :: es) t) (hdb : (x == ("__debug__" : Str)) = false := by decide) (he : starEach (e :: es) X.env = (false, eval e X.env) :: starEach es X.env := by rfl) (hpl : (backTo pos (starEach es X.env)).any (·.1) = false := by rfl) :
    PE X (.Call (.Name x p) (e :: es) [] pos) (tMakeS C sp dvs E t) := by
  refine ⟨fun pins s σ H Q I h => ?_⟩
  refine wpAny_Call_Name_kw (ld_glob I hg hm ?_ hdb)
  refine PySem.W.callWith_K (h₀ := X.base) I.ok.mod.kin M.kp (thn (ha.run pos pins s σ H _ I h) fun us s1 ⟨vs, H1, I1, r, q⟩ => ⟨I1.kIn, ?_⟩) he hpl
  exact run_makeS M F hr hb hd (hx σ) I1 r q
theorem pe_makeSD0 (M : Mk X.K C f) (F : FnOk X.prog X.w X.K X.mg X.base CX k f fd ps sp) (hr : Room (k + 1) X.A) (hg : Gl X x) (hm : X.mg x = some (.ref C)) (hb : Binds X.K fd ps ds) (hd : Vals dvs ds) (hx : ∀ σ, PassesAt CX X σ (E σ))
    (hdb : (x == ("__debug__" : Str)) = false := by decide) : PE X (.Call (.Name x p) [] [] pos) (tMakeS C sp dvs E tNil) := by
  refine ⟨fun pins s σ H Q I h => ?_⟩
  refine wpAny_Call_Name_kw (ld_glob I hg hm ?_ hdb)
  exact PySem.W.callWith_K0 I.kIn M.kp (run_makeS (us := []) M F hr hb hd (hx σ) I .nil h)
end
section
variable {G : Ga} {W : L2.WX} {X : Cx}
/-- the promise of a def by its mirror -/
def spM (G : Ga) (m : MF) : Sp := fun vs H Q E => ∃ F ad st ds, SR G H F ad st ∧ RepVs G F ad vs ds ∧ Po G E H F ad (QV G Q) (m ds st)
def mFun (n ns : Nat) (b : MS) : MF := fun ds st => if ds.length = n then (match b (ds.map some ++ List.replicate (ns - n) none) st with
  | .nx _ st => .ok (.d .non) st
  | .rt v st => .ok v st
  | .er c fs _ st => .er c fs st
  | _ => .bad) else .bad
theorem spM_len {n ns : Nat} {b : MS} {vs : List V} {H : Hp} {Q : VK} {E : XK} (h : spM G (mFun n ns b) vs H Q E) : vs.length = n := by
  obtain ⟨F, ad, st, ds, _, r, h⟩ := h
  unfold mFun at h
  split at h
  · rename_i e
    rw [Paired.length r]
    exact e
  · exact h.elim
theorem start_rel {F : Hp} {ad : List Addr} {N : List Str} {vs : List V} {ds : List Va} {n : Nat} (hj : ∀ F ad σ, G.jv F ad σ) (r : RepVs G F ad vs ds) (hn : ds.length = n) : RelE G F ad (L2.start N vs) (ds.map some ++ List.replicate (N.length - n) none) := by
  have hl := Paired.length r
  refine ⟨by unfold L2.start; simp [hl, hn], fun i d e => ?_, hj _ _ _⟩
  by_cases hi : i < ds.length
  · rw [List.getElem?_append_left (by rw [List.length_map]; exact hi), List.getElem?_map] at e
    cases z : ds[i]? with
    | none => rw [z] at e; cases e
    | some u =>
      rw [z] at e
      have : u = d := by simpa using e
      subst this
      obtain ⟨v, h1, h2⟩ := Paired.getR r i u z
      refine ⟨v, ?_, h2⟩
      unfold L2.start
      rw [List.getElem?_append_left (by rw [List.length_map, hl]; exact hi), List.getElem?_map, h1]
      rfl
  · rw [List.getElem?_append_right (by rw [List.length_map]; omega)] at e
    have := List.mem_of_getElem? e
    rw [List.mem_replicate] at this
    cases this.2
/-- THE RULE for a def -/
theorem fn_m {P : Program} {w : World} {mg : Str → Option Value} {base : Heap} {x qual : Str} {params : Arguments} {body : List Stmt} {scope : Scope} {dvs : List V} {kws : List (Str × V)} {f : Addr} {fd : FuncData} {N ps : List Str} {k n : Nat} {b : MS} {K : PySem.W.Frag} (F : FunD K x qual params body scope dvs kws f fd) (S : FnScope N ps scope) (hn : ps.length = n) (hj : ∀ F ad σ, G.jv F ad σ)
    (hb : ∀ (cdv : Value) (A : Around) (outer : List Env) (s : Shared) (H : Hp) (E : XK), Room k (A.deeper (PyProof.Rows.envOfC qual scope s.heap.objs.size f cdv)) →
      DSs G (fun cls d _ H' => E cls d H') (cxOf (L2.CX P w) P w K mg base N qual scope f cdv A outer s H E) body b) : FnOk P w K mg base (L2.CX P w) (k + 1) f fd ps (spM G (mFun n N.length b)) := by
  refine F.ok S (fun vs H Q E h => by rw [hn]; exact spM_len h) fun cdv A outer s H vs Q E hr h => ?_
  obtain ⟨t, p, z⟩ := hb cdv A outer s H E hr
  refine ⟨t, p, ?_⟩
  obtain ⟨F0, ad, st, ds, S0, r, h⟩ := h
  unfold mFun at h
  split at h
  · rename_i hl
    refine z _ _ H F0 ad st _ (start_rel hj r hl) S0 ?_
    revert h
    generalize b (ds.map some ++ List.replicate (N.length - n) none) st = o
    intro h
    cases o with
    | nx ρ st1 => exact fun H' F' ad' σ' e S' R' => h H' F' ad' e S' _ .non
    | rt v st1 => exact fun H' F' ad' v' e S' R' => h H' F' ad' e S' _ R'
    | er c fs ρ st1 => exact fun H' F' ad' σ' cls d e S' R' z => h H' F' ad' cls d e S' z
    | bk ρ st1 => exact h.elim
    | ct ρ st1 => exact h.elim
    | bad => exact h.elim
  · exact h.elim
/-! what leaves a call of a def that knows nothing of our cells -/
def mapO {α β : Type} (f : α → Option β) : List α → Option (List β)
  | [] => some []
  | x :: xs => match f x, mapO f xs with
    | some y, some ys => some (y :: ys)
    | _, _ => none
def rsv (st : Sto) : Nat → Va → Option D
  | _, .d x => some x
  | 0, .ref _ => none
  | k + 1, .ref n => match st[n]? with
    | some (.lst xs) => (mapO (rsv st k) xs).map D.lst
    | some (.obj c fs) => (mapO (fun p => (rsv st k p.2).map fun y => (p.1, y)) fs).map (D.obj c)
    | _ => none
@[simp] theorem rsv_d {st : Sto} {k : Nat} {x : D} : rsv st k (.d x) = some x := by cases k <;> rfl
def rsvF (st : Sto) (k : Nat) (fs : List (String × Va)) : Option (List (String × Va)) := mapO (fun p => (rsv st k p.2).map fun y => (p.1, Va.d y)) fs
/-- cells become frozen -/
def frzA (H F : Hp) (ad : List Addr) : Hp := fun b => if b ∈ ad then H b else F b
theorem mapO_ok {α β γ : Type} {f : α → Option β} {R : γ → α → Prop} {R' : γ → β → Prop} (h : ∀ c a b, R c a → f a = some b → R' c b) : ∀ {cs : List γ} {xs : List α} {ys : List β}, Paired R cs xs → mapO f xs = some ys → Paired R' cs ys
  | _, _, _, .nil, e => by cases e; exact .nil
  | _, _, ys, @Paired.cons _ _ _ c a _ xs r t, e => by
    have e : (match f a, mapO f xs with
      | some y, some ys => some (y :: ys)
      | _, _ => none) = some ys := e
    cases z : f a with
    | none => rw [z] at e; cases e
    | some y =>
      cases zz : mapO f xs with
      | none => rw [z, zz] at e; cases e
      | some zs =>
        rw [z, zz] at e
        cases e
        exact .cons (h _ _ _ r z) (mapO_ok h t zz)
theorem paired_reps {F : Hp} : ∀ {vs : List V} {ds : List D}, Paired (Rep G F) vs ds → Reps G F vs ds
  | _, _, .nil => .nil
  | _, _, .cons r t => .cons r (paired_reps t)
theorem paired_repf {F : Hp} : ∀ {vs : List (Str × V)} {ds : List (String × D)}, Paired (fun p q => p.1 = Str.ofString q.1 ∧ Rep G F p.2 q.2) vs ds → Repf G F vs ds
  | _, _, .nil => .nil
  | _, _, @Paired.cons _ _ _ (_, _) (_, _) _ _ ⟨e, r⟩ t => by
    cases e
    exact .cons r (paired_repf t)
theorem frzA_same {H F : Hp} {ad : List Addr} {st : Sto} (S : SR G H F ad st) : Same F (frzA H F ad) := fun b o h => by
  unfold frzA
  rw [if_neg (fun z => by rw [S.dis b z] at h; cases h)]
  exact h
theorem frzA_sub {H F : Hp} {ad : List Addr} {st : Sto} (S : SR G H F ad st) : Same (frzA H F ad) H := fun b o h => by
  unfold frzA at h
  split at h
  · exact h
  · exact S.sub b o h
theorem rsv_ok {H F : Hp} {ad : List Addr} {st : Sto} (S : SR G H F ad st) : ∀ {k : Nat} {v : V} {x : Va} {y : D}, RepV G F ad v x → rsv st k x = some y → Rep G (frzA H F ad) v y
  | k, v, .d x, y, r, e => by
    rw [rsv_d] at e
    cases e
    exact Rep.same (frzA_same S) r
  | 0, v, .ref n, y, r, e => by cases e
  | k + 1, v, .ref n, y, r, e => by
    obtain ⟨a, ha, rfl⟩ := r
    have e : (match st[n]? with
      | some (.lst xs) => (mapO (rsv st k) xs).map D.lst
      | some (.obj c fs) => (mapO (fun p => (rsv st k p.2).map fun y => (p.1, y)) fs).map (D.obj c)
      | _ => none) = some y := e
    have hm : frzA H F ad a = H a := if_pos (List.mem_of_getElem? ha)
    cases z : st[n]? with
    | none => rw [z] at e; cases e
    | some o =>
      rw [z] at e
      cases o with
      | lst xs =>
        have e : (mapO (rsv st k) xs).map D.lst = some y := e
        obtain ⟨vs, h1, h2⟩ := S.get ha z
        cases zz : mapO (rsv st k) xs with
        | none => rw [zz] at e; cases e
        | some ys =>
          rw [zz] at e
          cases e
          exact .lst (by rw [hm]; exact h1) (paired_reps (mapO_ok (f := rsv st k) (R' := Rep G (frzA H F ad)) (fun c a b r e => rsv_ok S r e) h2 zz))
      | obj c fs =>
        have e : (mapO (fun p => (rsv st k p.2).map fun y => (p.1, y)) fs).map (D.obj c) = some y := e
        obtain ⟨hc, dx, vfs, h1, h2⟩ := S.get ha z
        cases zz : mapO (fun p => (rsv st k p.2).map fun y => (p.1, y)) fs with
        | none => rw [zz] at e; cases e
        | some ys =>
          rw [zz] at e
          cases e
          refine .obj hc (by rw [hm]; exact h1) (paired_repf (mapO_ok (fun c a b r e => ?_) h2 zz))
          cases z3 : rsv st k a.2 with
          | none => rw [z3] at e; cases e
          | some y =>
            rw [z3] at e
            cases e
            exact ⟨r.1, rsv_ok S r.2 z3⟩
      | dct _ => cases e
/-- the caller's things behind such a call -/
theorem SR.behind {H F H1 F1 : Hp} {ad ad1 : List Addr} {st st1 : Sto} (S : SR G H F ad st) (E : Ext H F [] H1 F1 ad1) (S1 : SR G H1 F1 ad1 st1) : SR G H1 (frzA H1 F1 ad1) ad st ∧ Ext H F ad H1 (frzA H1 F1 ad1) ad := by
  have kp : ∀ b o, H b = some o → H1 b = some o := fun b o h => E.kp b o (by simp) h
  have nin : ∀ a ∈ ad, a ∉ ad1 := fun a h z => by
    obtain ⟨u, hu⟩ := S.there h
    rcases E.na a z with z | z
    · simp at z
    · rw [hu] at z; cases z
  have dis : ∀ a ∈ ad, frzA H1 F1 ad1 a = none := fun a h => by
    unfold frzA
    rw [if_neg (nin a h)]
    cases z : F1 a with
    | none => rfl
    | some o =>
      obtain ⟨u, hu⟩ := S.there h
      rcases E.nw a o z with z | z
      · rw [S.dis a h] at z; cases z
      · rw [hu] at z; cases z
  have E2 : Ext H F ad H1 (frzA H1 F1 ad1) ad := by
    refine ⟨⟨[], (List.append_nil _).symm⟩, E.fz.trans (frzA_same S1), fun b o _ h => kp b o h, E.dm, fun b o h => ?_, fun b h => .inl h⟩
    unfold frzA at h
    split at h
    · rename_i hb
      rcases E.na b hb with z | z
      · simp at z
      · exact .inr z
    · exact E.nw b o h
  refine ⟨⟨frzA_sub S1, S.len, S.nd, dis, fun n a o h ho => ?_⟩, E2⟩
  have hz := S.ob n a o h ho
  obtain ⟨u, hu⟩ := hz.there
  exact hz.mono E2 (by rw [hu]; exact kp a u hu)
def pureF (f : MF) : MF := fun ds st => match ds? ds with
  | some _ => (match f ds [] with
    | .ok v st1 => (match rsv st1 (st1.length + 1) v with
      | some x => .ok (.d x) st
      | none => .bad)
    | .er c fs st1 => (match rsvF st1 (st1.length + 1) fs with
      | some gs => .er c gs st
      | none => .bad)
    | .bad => .bad)
  | none => .bad
theorem err_behind {H F : Hp} {ad ad0 : List Addr} {st : Sto} (S : SR G H F ad st) {k : Nat} {c : String} {fs gs : List (String × Va)} {cls : Value} {d : Option Addr} (e : rsvF st k fs = some gs) (h : ErrR G F ad c fs cls d) : ErrR G (frzA H F ad) ad0 c gs cls d := by
  obtain ⟨h0, h1, h2⟩ := h
  refine ⟨h0, h1, ?_⟩
  rcases h2 with ⟨rfl, rfl⟩ | ⟨dx, vfs, rfl, hx, r⟩
  · cases e
    exact .inl ⟨rfl, rfl⟩
  · refine .inr ⟨dx, vfs, rfl, frzA_same S _ _ hx, mapO_ok (fun c a b r e => ?_) r e⟩
    cases z3 : rsv st k a.2 with
    | none => rw [z3] at e; cases e
    | some y =>
      rw [z3] at e
      cases e
      exact ⟨r.1, rsv_ok S r.2 z3⟩
theorem SR.none_ {H F : Hp} {ad : List Addr} {st : Sto} (S : SR G H F ad st) : SR G H F [] [] := ⟨S.sub, rfl, List.nodup_nil, fun _ h => (by simp at h), fun n a o h _ => (by simp at h)⟩
theorem spM_pure {f : MF} {H F : Hp} {ad : List Addr} {st : Sto} {vs : List V} {ds : List Va} {Q : VK} {E : XK} (S : SR G H F ad st) (r : RepVs G F ad vs ds) (h : Po G E H F ad (QV G Q) (pureF f ds st)) : spM G f vs H Q E := by
  unfold pureF at h
  cases z : ds? ds with
  | none => rw [z] at h; exact h.elim
  | some es =>
    rw [z] at h
    refine ⟨F, [], [], ds, S.none_, ?_, ?_⟩
    · rw [ds?_ok z] at r ⊢
      exact (Reps.of r).va
    · revert h
      generalize f ds [] = o
      intro h
      cases o with
      | bad => exact h
      | ok v st1 =>
        intro H1 F1 ad1 E1 S1 w rw
        have h : Po G E H F ad (QV G Q) (match rsv st1 (st1.length + 1) v with
          | some x => .ok (.d x) st
          | none => .bad) := h
        cases zz : rsv st1 (st1.length + 1) v with
        | none => rw [zz] at h; exact h.elim
        | some x =>
          rw [zz] at h
          obtain ⟨S2, E2⟩ := S.behind E1 S1
          exact h _ _ _ E2 S2 w (rsv_ok S1 rw zz)
      | er c fs st1 =>
        intro H1 F1 ad1 cls d E1 S1 er
        have h : Po G E H F ad (QV G Q) (match rsvF st1 (st1.length + 1) fs with
          | some gs => .er c gs st
          | none => .bad) := h
        cases zz : rsvF st1 (st1.length + 1) fs with
        | none => rw [zz] at h; exact h.elim
        | some gs =>
          rw [zz] at h
          obtain ⟨S2, E2⟩ := S.behind E1 S1
          exact h _ _ _ cls d E2 S2 (err_behind S1 zz er)
def mCall (f : MF) (m : MA) : ME := fun ρ st => (m ρ st).bind f
abbrev mPure (f : MF) (m : MA) : ME := mCall (pureF f) m
/-- defaults: what stands for them -/
def DflR (G : Ga) (dvs : List V) (es : List D) : Prop := ∀ F, Reps G F dvs es
theorem dfl_nil : DflR G [] [] := fun _ => .nil
theorem sim_call {f : MF} {g : MF} {t : TA} {m : MA} {dvs : List V} {es : List D} (hd : DflR G dvs es) (hg : (∀ ds st, g ds st = f (ds ++ es.map Va.d) st) ∨ (∀ ds st, g ds st = pureF f (ds ++ es.map Va.d) st)) (s : SimA G W t m) : SimE G W (tCallSD (spM G f) dvs (WE W) t) (mCall g m) := by
  intro σ ρ H F ad st Q R S h
  refine simA_bind s R S h fun xs vs st1 H1 F1 ad1 _ R1 S1 rvs h1 => ?_
  have rv : RepVs G F1 ad1 (vs ++ dvs) (xs ++ es.map Va.d) := Paired.append rvs (hd F1).va
  rcases hg with hg | hg
  · rw [hg] at h1
    exact ⟨F1, ad1, st1, _, S1, rv, h1⟩
  · rw [hg] at h1
    exact spM_pure S1 rv h1
/-- with defaults put behind -/
def withD (es : List D) (f : MF) : MF := fun ds st => f (ds ++ es.map Va.d) st
section
variable {k : Nat} {fa : Addr} {fd : FuncData} {ps : List Str} {f : MF} {dvs : List V} {ds : List Value} {es : List D} {x : Str} {e : Expr} {ee : List Expr} {p pos : Pos} {m : MA}
theorem de_call (F : FnOk X.prog X.w X.K X.mg X.base (L2.CX X.prog X.w) k fa fd ps (spM G f)) (hr : Room k X.A) (hg : Gl X x) (hm : X.mg x = some (.ref fa)) (hk : PySem.W.keepIn X.K (.ref fa) = true) (hb : Binds X.K fd ps []) (tk : Takes X W)
    (ha : DA G W X (e :: ee) m) (hdb : (x == ("__debug__" : Str)) = false := by decide) (he : starEach (e :: ee) X.env = (false, eval e X.env) :: starEach ee X.env := by rfl) (hpl : (backTo pos (starEach ee X.env)).any (·.1) = false := by rfl) : DE G W X (.Call (.Name x p) (e :: ee) [] pos) (mCall f m) := by
  obtain ⟨t, pt, st⟩ := ha
  exact ⟨_, pe_callSD F hr hg hm hk hb .nil (passAt tk) pt hdb he hpl, sim_call dfl_nil (.inl fun ds st => by rw [List.map_nil, List.append_nil]) st⟩
theorem de_pcall (F : FnOk X.prog X.w X.K X.mg X.base (L2.CX X.prog X.w) k fa fd ps (spM G f)) (hr : Room k X.A) (hg : Gl X x) (hm : X.mg x = some (.ref fa)) (hk : PySem.W.keepIn X.K (.ref fa) = true) (hb : Binds X.K fd ps []) (tk : Takes X W)
    (ha : DA G W X (e :: ee) m) (hdb : (x == ("__debug__" : Str)) = false := by decide) (he : starEach (e :: ee) X.env = (false, eval e X.env) :: starEach ee X.env := by rfl) (hpl : (backTo pos (starEach ee X.env)).any (·.1) = false := by rfl) : DE G W X (.Call (.Name x p) (e :: ee) [] pos) (mPure f m) := by
  obtain ⟨t, pt, st⟩ := ha
  exact ⟨_, pe_callSD F hr hg hm hk hb .nil (passAt tk) pt hdb he hpl, sim_call dfl_nil (.inr fun ds st => by rw [List.map_nil, List.append_nil]) st⟩
theorem de_call0 (F : FnOk X.prog X.w X.K X.mg X.base (L2.CX X.prog X.w) k fa fd ps (spM G f)) (hr : Room k X.A) (hg : Gl X x) (hm : X.mg x = some (.ref fa)) (hk : PySem.W.keepIn X.K (.ref fa) = true) (hb : Binds X.K fd ps []) (tk : Takes X W) (hdb : (x == ("__debug__" : Str)) = false := by decide) : DE G W X (.Call (.Name x p) [] [] pos) (mCall f mNil) :=
  ⟨_, pe_callSD0 F hr hg hm hk hb .nil (passAt tk) hdb, fun σ ρ H F ad st Q R S h => ⟨F, ad, st, [], S, .nil, h⟩⟩
end
/-! fields -/
def getF (f : String) : Va → Sto → Option Va
  | .d (.obj _ fs), _ => (fs.lookup f).map Va.d
  | .ref n, st => match st[n]? with
    | some (.obj _ fs) => fs.lookup f
    | _ => none
  | _, _ => none
def mFld (f : String) (a : ME) : ME := fun ρ st => (a ρ st).bind fun x st => match getF f x st with
  | some v => .ok v st
  | none => .bad
theorem lookup_f {F : Hp} {ad : List Addr} {f : String} : ∀ {vfs : List (Str × V)} {fs : List (String × Va)} {x : Va}, RepFs G F ad vfs fs → fs.lookup f = some x → ∃ v, vfs.lookup (Str.ofString f) = some v ∧ RepV G F ad v x
  | _, _, x, .nil, e => by cases e
  | _, _, x, @Paired.cons _ _ _ (g, v) (h, y) vfs fs ⟨e1, r⟩ t, e => by
    have e1 : g = Str.ofString h := e1
    subst e1
    rw [List.lookup_cons] at e ⊢
    by_cases hf : f = h
    · subst hf
      rw [beq_self_eq_true] at e ⊢
      have : y = x := by simpa using e
      subst this
      exact ⟨v, rfl, r⟩
    · have n1 : (f == h) = false := by simpa using hf
      have n2 : (Str.ofString f == Str.ofString h) = false := by simpa using fun z => hf (ofS_inj z)
      rw [n1] at e
      rw [n2]
      exact lookup_f t e
theorem lookup_none {F : Hp} {ad : List Addr} {f : String} : ∀ {vfs : List (Str × V)} {fs : List (String × Va)}, RepFs G F ad vfs fs → fs.lookup f = none → vfs.lookup (Str.ofString f) = none
  | _, _, .nil, e => rfl
  | _, _, @Paired.cons _ _ _ (g, v) (h, y) vfs fs ⟨e1, r⟩ t, e => by
    have e1 : g = Str.ofString h := e1
    subst e1
    rw [List.lookup_cons] at e ⊢
    by_cases hf : f = h
    · subst hf
      rw [beq_self_eq_true] at e
      cases e
    · have n1 : (f == h) = false := by simpa using hf
      have n2 : (Str.ofString f == Str.ofString h) = false := by simpa using fun z => hf (ofS_inj z)
      rw [n1] at e
      rw [n2]
      exact lookup_none t e
theorem lookup_d {f : String} : ∀ {fs : List (String × D)}, (fs.map fun p => (p.1, Va.d p.2)).lookup f = (fs.lookup f).map Va.d
  | [] => rfl
  | (g, x) :: fs => by
    rw [List.map_cons, List.lookup_cons, List.lookup_cons]
    cases z : f == g with
    | true => rfl
    | false => exact lookup_d
/-- an instance of a known class -/
def objOf : Va → Sto → Option (String × List (String × Va))
  | .d (.obj c fs), _ => some (c, fs.map fun p => (p.1, Va.d p.2))
  | .ref n, st => match st[n]? with
    | some (.obj c fs) => some (c, fs)
    | _ => none
  | _, _ => none
theorem objOf_ok {H F : Hp} {ad : List Addr} {st : Sto} {v : V} {x : Va} {c : String} {fs : List (String × Va)} (S : SR G H F ad st) (r : RepV G F ad v x) (e : objOf x st = some (c, fs)) : ∃ a dx vfs, v = .ref a ∧ c ∈ G.cs ∧ H a = some (.ins (G.ca c) dx vfs) ∧ RepFs G F ad vfs fs := by
  cases x with
  | ref n =>
    obtain ⟨a, ha, rfl⟩ := r
    have e : (match st[n]? with
      | some (.obj c fs) => some (c, fs)
      | _ => none) = some (c, fs) := e
    cases z : st[n]? with
    | none => rw [z] at e; cases e
    | some o =>
      rw [z] at e
      cases o with
      | obj c' fs' =>
        obtain ⟨hc, dx, vfs, h1, h2⟩ := S.get ha z
        cases e
        exact ⟨a, dx, vfs, rfl, hc, h1, h2⟩
      | _ => cases e
  | d x =>
    cases r with
    | obj hc h t => cases e; exact ⟨_, _, _, rfl, hc, S.sub _ _ h, t.va⟩
    | _ => cases e
theorem getF_obj {f : String} {x y : Va} {st : Sto} (h : getF f x st = some y) : ∃ c fs, objOf x st = some (c, fs) ∧ fs.lookup f = some y := by
  cases x with
  | ref n =>
    have h : (match st[n]? with
      | some (.obj _ fs) => fs.lookup f
      | _ => none) = some y := h
    cases z : st[n]? with
    | none => rw [z] at h; cases h
    | some o =>
      rw [z] at h
      cases o with
      | obj c fs => exact ⟨c, fs, (by show (match st[n]? with | some (.obj c fs) => some (c, fs) | _ => none) = _; rw [z]), h⟩
      | _ => cases h
  | d x => cases x with
    | obj c fs => exact ⟨c, _, rfl, by rw [lookup_d]; exact h⟩
    | _ => cases h
/-- no class of ours has the name -/
def NoAt (G : Ga) (f : String) : Prop := ∀ c ∈ G.cs, NoAttr G.K (G.ca c) (Str.ofString f)
theorem de_fld {e : Expr} {f : String} {pos : Pos} {m : ME} (hK : X.K = G.K) (nf : NoAt G f) (he : DE G W X e m) (hb : attributeBase e (Str.ofString f) X.env (eval e X.env) = eval e X.env) : DE G W X (.Attribute e (Str.ofString f) pos) (mFld f m) := by
  obtain ⟨t, p, s⟩ := he
  refine ⟨_, pe_fld p hb, ?_⟩
  intro σ ρ H F ad st Q R S h
  refine simE_bind s R S h fun x v st1 H1 F1 ad1 _ R1 S1 rv h1 => ?_
  cases z : getF f x st1 with
  | none => rw [z] at h1; exact h1.elim
  | some y =>
    rw [z] at h1
    obtain ⟨c, fs, e1, e2⟩ := getF_obj z
    obtain ⟨a, dx, vfs, rfl, hc, h2, h3⟩ := objOf_ok S1 rv e1
    obtain ⟨w, h4, h5⟩ := lookup_f h3 e2
    exact ⟨a, _, dx, vfs, w, rfl, h2, by rw [hK]; exact (G.cok c hc).cl, by rw [hK]; exact nf c hc, h4, fin_same S1 h1 _ h5⟩
/-! methods -/
def mMeth (c mth : String) (f : MF) (o : ME) (m : MA) : ME := fun ρ st => (o ρ st).bind fun x st => match objOf x st with
  | some (c', fs) => if c' = c ∧ fs.lookup mth = none then (m ρ st).bind fun xs st => f (x :: xs) st else .bad
  | none => .bad
theorem sim_meth {f g : MF} {t : TA} {m : MA} {ta : TE} {mo : ME} {c mth : String} {dvs : List V} {es : List D} (hd : DflR G dvs es) (hg : (∀ ds st, g ds st = f (ds ++ es.map Va.d) st) ∨ (∀ ds st, g ds st = pureF f (ds ++ es.map Va.d) st)) (so : SimE G W ta mo) (s : SimA G W t m) :
    SimE G W (tMethS (G.ca c) (Str.ofString mth) (spM G f) dvs (WE W) ta t) (mMeth c mth g mo m) := by
  intro σ ρ H F ad st Q R S h
  refine simE_bind so R S h fun x v st1 H1 F1 ad1 _ R1 S1 rv h1 => ?_
  cases z : objOf x st1 with
  | none => rw [z] at h1; exact h1.elim
  | some cf =>
    obtain ⟨c', fs⟩ := cf
    rw [z] at h1
    replace h1 : Po G _ H1 F1 ad1 (QV G Q) (if c' = c ∧ fs.lookup mth = none then (m ρ st1).bind fun xs st => g (x :: xs) st else .bad) := h1
    split at h1
    · rename_i hc
      obtain ⟨rfl, hl⟩ := hc
      obtain ⟨a, dx, vfs, rfl, hc, h2, h3⟩ := objOf_ok S1 rv z
      refine ⟨a, dx, vfs, rfl, h2, lookup_none h3 hl, ?_⟩
      refine simA_bind s R1 S1 h1 fun xs vs st2 H2 F2 ad2 e2 R2 S2 rvs h2 => ?_
      have rv2 : RepVs G F2 ad2 (.ref a :: (vs ++ dvs)) ((x :: xs) ++ es.map Va.d) := .cons (rv.ext e2) (Paired.append rvs (hd F2).va)
      rcases hg with hg | hg
      · rw [hg] at h2
        exact ⟨F2, ad2, st2, _, S2, rv2, h2⟩
      · rw [hg] at h2
        exact spM_pure S2 rv2 h2
    · exact h1.elim
section
variable {k : Nat} {fa : Addr} {fd : FuncData} {ps : List Str} {f : MF} {dvs : List V} {ds : List Value} {es : List D} {c mth : String} {e o : Expr} {ee : List Expr} {p pos apos : Pos} {m : MA} {mo : ME}
theorem de_meth {pl : Sem Bool} (g : MF) (he : DE G W X o mo) (cl : Cls X.K (G.ca c)) (hm : Meth X.K (G.ca c) (Str.ofString mth) fa) (F : FnOk X.prog X.w X.K X.mg X.base (L2.CX X.prog X.w) k fa fd ps (spM G f)) (hr : Room k X.A) (hb : Binds X.K fd ps ds) (hv : Vals dvs ds) (hd : DflR G dvs es) (tk : Takes X W)
    (hg : (∀ ds st, g ds st = f (ds ++ es.map Va.d) st) ∨ (∀ ds st, g ds st = pureF f (ds ++ es.map Va.d) st)) (ha : DA G W X (e :: ee) m)
    (hst : starEach (e :: ee) X.env = (false, eval e X.env) :: starEach ee X.env := by rfl) (hpl : (backTo pos (starEach ee X.env)).any (·.1) = false := by rfl)
    (ht : eval (.Call (.Attribute o (Str.ofString mth) apos) (e :: ee) [] pos) X.env = (do
      let ov ← eval o X.env
      standAt apos.atName
      let (f, first) ← holding [ov] (getMethod ov (Str.ofString mth) pl)
      callWith pos f first (backTo pos (starEach (e :: ee) X.env)) (backToKw pos (keywordEach [] X.env))) := by rfl) : DE G W X (.Call (.Attribute o (Str.ofString mth) apos) (e :: ee) [] pos) (mMeth c mth g mo m) := by
  obtain ⟨t, pt, st⟩ := ha
  obtain ⟨to, po, so⟩ := he
  exact ⟨_, pe_methSD po cl hm F hr hb hv (passAt tk) pt hst hpl ht, sim_meth hd hg so st⟩
theorem de_meth0 {pl : Sem Bool} (g : MF) (he : DE G W X o mo) (cl : Cls X.K (G.ca c)) (hm : Meth X.K (G.ca c) (Str.ofString mth) fa) (F : FnOk X.prog X.w X.K X.mg X.base (L2.CX X.prog X.w) k fa fd ps (spM G f)) (hr : Room k X.A) (hb : Binds X.K fd ps ds) (hv : Vals dvs ds) (hd : DflR G dvs es) (tk : Takes X W)
    (hg : (∀ ds st, g ds st = f (ds ++ es.map Va.d) st) ∨ (∀ ds st, g ds st = pureF f (ds ++ es.map Va.d) st))
    (ht : eval (.Call (.Attribute o (Str.ofString mth) apos) [] [] pos) X.env = (do
      let ov ← eval o X.env
      standAt apos.atName
      let (f, first) ← holding [ov] (getMethod ov (Str.ofString mth) pl)
      callWith pos f first (backTo pos (starEach [] X.env)) (backToKw pos (keywordEach [] X.env))) := by rfl) : DE G W X (.Call (.Attribute o (Str.ofString mth) apos) [] [] pos) (mMeth c mth g mo mNil) := by
  obtain ⟨to, po, so⟩ := he
  exact ⟨_, pe_methSD0 po cl hm F hr hb hv (passAt tk) ht, sim_meth hd hg so fun σ ρ H F ad st Q R S h => fin_same S h _ .nil⟩
end
/-! properties -/
def noEr {α : Type} : Res α → Res α
  | .ok a st => .ok a st
  | _ => .bad
def mProp (c : String) (g : MF) (o : ME) : ME := fun ρ st => (o ρ st).bind fun x st => match objOf x st with
  | some (c', _) => if c' = c then noEr (g [x] st) else .bad
  | none => .bad
theorem po_noEr {α : Type} {Wv Wv' : Value → Option Addr → Hp → Prop} {H F : Hp} {ad : List Addr} {P : α → Sto → Hp → Hp → List Addr → Prop} {r : Res α} (h : Po G Wv H F ad P (noEr r)) : Po G Wv' H F ad P r := by
  cases r with
  | ok a st => exact h
  | _ => exact h.elim
theorem de_prop {k : Nat} {fa p : Addr} {fd : FuncData} {ps : List Str} {f : MF} (g : MF) {c : String} {x : Str} {e : Expr} {pos : Pos} {mo : ME} (he : DE G W X e mo) (cl : Cls X.K (G.ca c)) (hp : PropOf X.K (G.ca c) x p fa) (F : FnOk X.prog X.w X.K X.mg X.base (L2.CX X.prog X.w) k fa fd ps (spM G f)) (hr : Room (k + 1) X.A) (hb : Binds X.K fd ps [])
    (hg : (∀ ds st, g ds st = f ds st) ∨ (∀ ds st, g ds st = pureF f ds st)) (hab : attributeBase e x X.env (eval e X.env) = eval e X.env) : DE G W X (.Attribute e x pos) (mProp c g mo) := by
  obtain ⟨t, pt, s⟩ := he
  refine ⟨_, pe_prop (E := fun _ _ _ => False) pt cl hp F hr hb .nil passL hab, ?_⟩
  intro σ ρ H F ad st Q R S h
  refine simE_bind s R S h fun x v st1 H1 F1 ad1 _ R1 S1 rv h1 => ?_
  cases z : objOf x st1 with
  | none => rw [z] at h1; exact h1.elim
  | some cf =>
    obtain ⟨c', fs⟩ := cf
    rw [z] at h1
    replace h1 : Po G _ H1 F1 ad1 (QV G Q) (if c' = c then noEr (g [x] st1) else .bad) := h1
    split at h1
    · rename_i hc
      subst hc
      obtain ⟨a, dx, vfs, rfl, hc, h2, h3⟩ := objOf_ok S1 rv z
      refine ⟨a, dx, vfs, rfl, h2, ?_⟩
      have h1 := po_noEr (Wv' := fun _ _ _ => False) h1
      rcases hg with hg | hg
      · rw [hg] at h1
        exact ⟨F1, ad1, st1, _, S1, .cons rv .nil, h1⟩
      · rw [hg] at h1
        exact spM_pure S1 (.cons rv .nil) h1
    · exact h1.elim
/-! C(..) -/
/-- a new instance that may change -/
def makeC (c : String) (f : MF) : MF := fun ds st => match f (.ref st.length :: ds) (st ++ [.obj c []]) with
  | .ok (.d .non) st1 => .ok (.ref st.length) st1
  | .er c fs st1 => .er c fs st1
  | _ => .bad
/-- a new instance, frozen behind its __init__ -/
def makeP (c : String) (f : MF) : MF := fun ds st => match ds? ds with
  | some _ => (match f (.ref 0 :: ds) [.obj c []] with
    | .ok (.d .non) st1 => (match rsv st1 (st1.length + 1) (.ref 0) with
      | some x => .ok (.d x) st
      | none => .bad)
    | .er c fs st1 => (match rsvF st1 (st1.length + 1) fs with
      | some gs => .er c gs st
      | none => .bad)
    | _ => .bad)
  | none => .bad
theorem SR.inst {H F : Hp} {ad : List Addr} {st : Sto} {c : String} {x dx : Addr} (S : SR G H F ad st) (hc : c ∈ G.cs) (hx : H x = none) (hd : H dx = none) (ne : dx ≠ x) :
    SR G (upd (upd H dx (.own x)) x (.ins (G.ca c) dx [])) (upd F dx (.own x)) (ad ++ [x]) (st ++ [.obj c []]) ∧ Ext H F ad (upd (upd H dx (.own x)) x (.ins (G.ca c) dx [])) (upd F dx (.own x)) (ad ++ [x]) := by
  have S1 := S.new (o := .own x) hd
  have E1 := ext_new S (o := .own x) hd
  have hx1 : upd H dx (.own x) x = none := by rw [upd_ne ne.symm]; exact hx
  exact ⟨S1.cell (m := .obj c []) hx1 ⟨hc, dx, [], upd_same, .nil⟩, E1.trans (ext_cell S1 hx1)⟩
theorem sim_makeC {f : MF} {c : String} {dvs : List V} {es : List D} {vs : List V} {xs : List Va} {H F : Hp} {ad : List Addr} {st : Sto} {Q : VK} {E : XK} (hc : c ∈ G.cs) (hd : DflR G dvs es) (S : SR G H F ad st) (r : RepVs G F ad vs xs) (h : Po G E H F ad (QV G Q) (makeC c (withD es f) xs st)) :
    ∀ x dx, H x = none → H dx = none → dx ≠ x → spM G f (.ref x :: (vs ++ dvs)) (upd (upd H dx (.own x)) x (.ins (G.ca c) dx [])) (fun v H2 => v = .non ∧ Q (.ref x) H2) E := by
  intro x dx hx hdx ne
  obtain ⟨S1, E1⟩ := S.inst hc hx hdx ne
  have hself : (ad ++ [x])[st.length]? = some x := by rw [← S.len]; simp
  refine ⟨_, _, _, (.ref st.length :: xs) ++ es.map Va.d, S1, .cons ⟨x, hself, rfl⟩ (Paired.append (RepVs.ext E1 r) (hd _).va), ?_⟩
  unfold makeC withD at h
  revert h
  generalize f ((.ref st.length :: xs) ++ es.map Va.d) (st ++ [.obj c []]) = o
  intro h
  cases o with
  | bad => exact h.elim
  | er c' fs st1 => exact fun H' F' ad' cls d e' S' z => h H' F' ad' cls d (E1.trans e') S' z
  | ok v st1 =>
    cases v with
    | ref n => exact h.elim
    | d v => cases v with
      | non =>
        intro H' F' ad' e' S' w rw
        cases rw
        exact ⟨rfl, h H' F' ad' (E1.trans e') S' _ ⟨x, e'.at_ hself, rfl⟩⟩
      | _ => exact h.elim
theorem sim_makeP {f : MF} {c : String} {dvs : List V} {es : List D} {vs : List V} {xs : List Va} {H F : Hp} {ad : List Addr} {st : Sto} {Q : VK} {E : XK} (hc : c ∈ G.cs) (hd : DflR G dvs es) (S : SR G H F ad st) (r : RepVs G F ad vs xs) (h : Po G E H F ad (QV G Q) (makeP c (withD es f) xs st)) :
    ∀ x dx, H x = none → H dx = none → dx ≠ x → spM G f (.ref x :: (vs ++ dvs)) (upd (upd H dx (.own x)) x (.ins (G.ca c) dx [])) (fun v H2 => v = .non ∧ Q (.ref x) H2) E := by
  intro x dx hx hdx ne
  unfold makeP at h
  cases zd : ds? xs with
  | none => rw [zd] at h; exact h.elim
  | some ys =>
    rw [zd] at h
    obtain ⟨S1, E1⟩ := (S.none_).inst hc hx hdx ne
    have r0 : RepVs G F [] vs xs := by
      rw [ds?_ok zd] at r ⊢
      exact (Reps.of r).va
    refine ⟨_, _, _, (.ref 0 :: xs) ++ es.map Va.d, S1, .cons ⟨x, rfl, rfl⟩ (Paired.append (RepVs.ext E1 r0) (hd _).va), ?_⟩
    unfold withD at h
    revert h
    show Po G E H F ad (QV G Q) (match f ((.ref 0 :: xs) ++ es.map Va.d) ([] ++ [.obj c []]) with
      | .ok (.d .non) st1 => (match rsv st1 (st1.length + 1) (.ref 0) with
        | some x => .ok (.d x) st
        | none => .bad)
      | .er c fs st1 => (match rsvF st1 (st1.length + 1) fs with
        | some gs => .er c gs st
        | none => .bad)
      | _ => .bad) → _
    generalize f ((.ref 0 :: xs) ++ es.map Va.d) ([] ++ [.obj c []]) = o
    intro h
    cases o with
    | bad => exact h.elim
    | er c' fs st1 =>
      intro H1 F1 ad1 cls d e1 S2 er
      have h : Po G E H F ad (QV G Q) (match rsvF st1 (st1.length + 1) fs with
        | some gs => .er c' gs st
        | none => .bad) := h
      cases zz : rsvF st1 (st1.length + 1) fs with
      | none => rw [zz] at h; exact h.elim
      | some gs =>
        rw [zz] at h
        obtain ⟨S3, E3⟩ := S.behind (E1.trans e1) S2
        exact h _ _ _ cls d E3 S3 (err_behind S2 zz er)
    | ok v st1 =>
      cases v with
      | ref n => exact h.elim
      | d v => cases v with
        | non =>
          intro H1 F1 ad1 e1 S2 w rw
          cases rw
          have h : Po G E H F ad (QV G Q) (match rsv st1 (st1.length + 1) (.ref 0) with
            | some x => .ok (.d x) st
            | none => .bad) := h
          cases zz : rsv st1 (st1.length + 1) (.ref 0) with
          | none => rw [zz] at h; exact h.elim
          | some y =>
            rw [zz] at h
            obtain ⟨S3, E3⟩ := S.behind (E1.trans e1) S2
            exact ⟨rfl, h _ _ _ E3 S3 _ (rsv_ok (x := .ref 0) S2 ⟨x, e1.at_ (n := 0) rfl, rfl⟩ zz)⟩
        | _ => exact h.elim
section
variable {k : Nat} {fa : Addr} {fd : FuncData} {ps : List Str} {f : MF} {dvs : List V} {ds : List Value} {es : List D} {c : String} {x : Str} {e : Expr} {ee : List Expr} {p pos : Pos} {m : MA}
theorem de_makeP (hc : c ∈ G.cs) (M : Mk X.K (G.ca c) fa) (F : FnOk X.prog X.w X.K X.mg X.base (L2.CX X.prog X.w) k fa fd ps (spM G f)) (hr : Room (k + 1) X.A) (hg : Gl X x) (hm : X.mg x = some (.ref (G.ca c))) (hb : Binds X.K fd ps ds) (hv : Vals dvs ds) (hd : DflR G dvs es) (tk : Takes X W)
    (ha : DA G W X (e :: ee) m) (hdb : (x == ("__debug__" : Str)) = false := by decide) (he : starEach (e :: ee) X.env = (false, eval e X.env) :: starEach ee X.env := by rfl) (hpl : (backTo pos (starEach ee X.env)).any (·.1) = false := by rfl) : DE G W X (.Call (.Name x p) (e :: ee) [] pos) (mCall (makeP c (withD es f)) m) := by
  obtain ⟨t, pt, s⟩ := ha
  refine ⟨_, pe_makeSD M F hr hg hm hb hv (passAt tk) pt hdb he hpl, ?_⟩
  intro σ ρ H F ad st Q R S h
  exact simA_bind s R S h fun xs vs st1 H1 F1 ad1 _ R1 S1 rvs h1 => sim_makeP hc hd S1 rvs h1
theorem de_makeC (hc : c ∈ G.cs) (M : Mk X.K (G.ca c) fa) (F : FnOk X.prog X.w X.K X.mg X.base (L2.CX X.prog X.w) k fa fd ps (spM G f)) (hr : Room (k + 1) X.A) (hg : Gl X x) (hm : X.mg x = some (.ref (G.ca c))) (hb : Binds X.K fd ps ds) (hv : Vals dvs ds) (hd : DflR G dvs es) (tk : Takes X W)
    (ha : DA G W X (e :: ee) m) (hdb : (x == ("__debug__" : Str)) = false := by decide) (he : starEach (e :: ee) X.env = (false, eval e X.env) :: starEach ee X.env := by rfl) (hpl : (backTo pos (starEach ee X.env)).any (·.1) = false := by rfl) : DE G W X (.Call (.Name x p) (e :: ee) [] pos) (mCall (makeC c (withD es f)) m) := by
  obtain ⟨t, pt, s⟩ := ha
  refine ⟨_, pe_makeSD M F hr hg hm hb hv (passAt tk) pt hdb he hpl, ?_⟩
  intro σ ρ H F ad st Q R S h
  exact simA_bind s R S h fun xs vs st1 H1 F1 ad1 _ R1 S1 rvs h1 => sim_makeC hc hd S1 rvs h1
theorem de_make0 (g : MF) (hg2 : g = makeP c (withD es f) ∨ g = makeC c (withD es f)) (hc : c ∈ G.cs) (M : Mk X.K (G.ca c) fa) (F : FnOk X.prog X.w X.K X.mg X.base (L2.CX X.prog X.w) k fa fd ps (spM G f)) (hr : Room (k + 1) X.A) (hg : Gl X x) (hm : X.mg x = some (.ref (G.ca c))) (hb : Binds X.K fd ps ds) (hv : Vals dvs ds) (hd : DflR G dvs es) (tk : Takes X W)
    (hdb : (x == ("__debug__" : Str)) = false := by decide) : DE G W X (.Call (.Name x p) [] [] pos) (mCall g mNil) := by
  refine ⟨_, pe_makeSD0 M F hr hg hm hb hv (passAt tk) hdb, ?_⟩
  intro σ ρ H F ad st Q R S h
  rcases hg2 with e | e
  · subst e
    exact sim_makeP hc hd S .nil h
  · subst e
    exact sim_makeC hc hd S .nil h
end
end

/-! ### statements -/
section
variable {G : Ga} {W : L2.WX} {X : Cx}
/-! targets: they change slots alone -/
abbrev MG := Va → Ev → Option Ev
def Agree (vs : List Nat) (σ σ' : L2.St) : Prop := σ'.length = σ.length ∧ ∀ i, i ∉ vs → σ'[i]? = σ[i]?
theorem Agree.refl {vs : List Nat} {σ : L2.St} : Agree vs σ σ := ⟨rfl, fun _ _ => rfl⟩
theorem Agree.trans {vs : List Nat} {σ σ1 σ2 : L2.St} (a : Agree vs σ σ1) (b : Agree vs σ1 σ2) : Agree vs σ σ2 := ⟨b.1.trans a.1, fun i h => (b.2 i h).trans (a.2 i h)⟩
def SimG (G : Ga) (vs : List Nat) (g : TG) (m : MG) : Prop := ∀ (v : V) (x : Va) (σ : L2.St) (ρ ρ' : Ev) (H F : Hp) (ad : List Addr) (st : Sto) (Q : L2.St → Hp → Prop), RepV G F ad v x → RelE G F ad σ ρ → SR G H F ad st → m x ρ = some ρ' →
  (∀ σ', Agree vs σ σ' → RelE G F ad σ' ρ' → Q σ' H) → g v σ H Q
def SimGs (G : Ga) (vs : List Nat) (g : TGs) (m : List Va → Ev → Option Ev) : Prop := ∀ (v : List V) (x : List Va) (σ : L2.St) (ρ ρ' : Ev) (H F : Hp) (ad : List Addr) (st : Sto) (Q : L2.St → Hp → Prop), RepVs G F ad v x → RelE G F ad σ ρ → SR G H F ad st → m x ρ = some ρ' →
  (∀ σ', Agree vs σ σ' → RelE G F ad σ' ρ' → Q σ' H) → g v σ H Q
def gN (i : Nat) : MG := fun x ρ => some (ρ.set i (some x))
theorem simG_name {vs : List Nat} {i : Nat} (hs : G.Stb) (hi : i ∈ vs) : SimG G vs (gName i) (gN i) := by
  intro v x σ ρ ρ' H F ad st Q r R S e q
  cases e
  refine q _ ⟨by rw [List.length_set], fun j hj => ?_⟩ (R.set hs r)
  rw [List.getElem?_set_ne (fun z => hj (by rw [← z]; exact hi))]
def gsN : List Va → Ev → Option Ev
  | [], ρ => some ρ
  | _, _ => none
def gsC (m : MG) (r : List Va → Ev → Option Ev) : List Va → Ev → Option Ev
  | x :: xs, ρ => (m x ρ).bind (r xs)
  | _, _ => none
theorem simGs_nil {vs : List Nat} : SimGs G vs gNil gsN := by
  intro v x σ ρ ρ' H F ad st Q r R S e q
  cases r with
  | nil => cases e; exact ⟨rfl, q _ Agree.refl R⟩
  | cons _ _ => cases e
theorem simGs_cons {vs : List Nat} {g : TG} {gs : TGs} {m : MG} {ms : List Va → Ev → Option Ev} (hg : SimG G vs g m) (hs : SimGs G vs gs ms) : SimGs G vs (gCons g gs) (gsC m ms) := by
  intro v x σ ρ ρ' H F ad st Q r R S e q
  cases r with
  | nil => cases e
  | @cons a y as ys r t =>
    have e : (m y ρ).bind (ms ys) = some ρ' := e
    cases z : m y ρ with
    | none => rw [z] at e; cases e
    | some ρ1 =>
      rw [z] at e
      refine ⟨a, as, rfl, hg a y σ ρ ρ1 H F ad st _ r R S z fun σ1 a1 R1 => ?_⟩
      exact hs as ys σ1 ρ1 ρ' H F ad st _ t R1 S e fun σ2 a2 R2 => q σ2 (a1.trans a2) R2
/-- a, b = a tuple -/
def gT (n : Nat) (m : List Va → Ev → Option Ev) : MG
  | .d (.tup xs), ρ => if xs.length = n then m (xs.map Va.d) ρ else none
  | _, _ => none
theorem simG_tup {vs : List Nat} {n : Nat} {g : TGs} {m : List Va → Ev → Option Ev} (h : SimGs G vs g m) : SimG G vs (gTup G.K n g) (gT n m) := by
  intro v x σ ρ ρ' H F ad st Q r R S e q
  cases x with
  | ref n => cases e
  | d x => cases r with
    | @tup a ws ds h1 t =>
      have e : (if ds.length = n then m (ds.map Va.d) ρ else none) = some ρ' := e
      split at e
      · rename_i hn
        exact ⟨a, ws, rfl, sqT_same S.sub h1, by rw [t.length]; exact hn, h ws _ σ ρ ρ' H F ad st _ t.va R S e q⟩
      · cases e
    | _ => cases e
/-- a, b = a list -/
def gL (n : Nat) (m : List Va → Ev → Option Ev) : MG
  | .d (.lst xs), ρ => if xs.length = n then m (xs.map Va.d) ρ else none
  | _, _ => none
theorem simG_lst {vs : List Nat} {n : Nat} {g : TGs} {m : List Va → Ev → Option Ev} (h : SimGs G vs g m) : SimG G vs (gUnl G.K n g) (gL n m) := by
  intro v x σ ρ ρ' H F ad st Q r R S e q
  cases x with
  | ref n => cases e
  | d x => cases r with
    | @lst a ws ds h1 t =>
      have e : (if ds.length = n then m (ds.map Va.d) ρ else none) = some ρ' := e
      split at e
      · rename_i hn
        exact ⟨a, ws, rfl, SqL.of (S.sub _ _ h1), by rw [t.length]; exact hn, h ws _ σ ρ ρ' H F ad st _ t.va R S e q⟩
      · cases e
    | _ => cases e
def DG (G : Ga) (X : Cx) (vs : List Nat) (tg : Expr) (m : MG) : Prop := ∃ g, PG X tg g ∧ SimG G vs g m
def DGs (G : Ga) (X : Cx) (vs : List Nat) (tg : List Expr) (m : List Va → Ev → Option Ev) : Prop := ∃ g, PGs X tg g ∧ SimGs G vs g m
theorem dg_name {vs : List Nat} {tg : Expr} {i : Nat} (hs : G.Stb) (hi : i ∈ vs) (h : PG X tg (gName i)) : DG G X vs tg (gN i) := ⟨_, h, simG_name hs hi⟩
theorem dgs_nil {vs : List Nat} : DGs G X vs [] gsN := ⟨_, pgs_nil, simGs_nil⟩
theorem dgs_cons {vs : List Nat} {t : Expr} {ts : List Expr} {m : MG} {ms : List Va → Ev → Option Ev} (h : DG G X vs t m) (hs : DGs G X vs ts ms) (he : (assignEach (t :: ts) X.env).map (·.2) = assign t X.env :: (assignEach ts X.env).map (·.2) := by rfl) : DGs G X vs (t :: ts) (gsC m ms) := by
  obtain ⟨g, p, s⟩ := h
  obtain ⟨gs, ps, ss⟩ := hs
  exact ⟨_, pgs_cons p ps he, simGs_cons s ss⟩
theorem dg_tup {vs : List Nat} {es : List Expr} {k n : Nat} {pos : Pos} {m : List Va → Ev → Option Ev} (hK : X.K = G.K) (hc : X.calm = true) (h : DGs G X vs es m) (hn : (assignEach es X.env).length = n := by rfl) (hst : (assignEach es X.env).findIdx? (·.1) = none := by rfl) : DG G X vs (.Tuple es k pos) (gT n m) := by
  obtain ⟨g, p, s⟩ := h
  exact ⟨_, pg_tup hc p hn hst, by rw [hK]; exact simG_tup s⟩
theorem dg_lst {vs : List Nat} {es : List Expr} {k n : Nat} {pos : Pos} {m : List Va → Ev → Option Ev} (hK : X.K = G.K) (hc : X.calm = true) (h : DGs G X vs es m) (hn : (assignEach es X.env).length = n := by rfl) (hst : (assignEach es X.env).findIdx? (·.1) = none := by rfl) : DG G X vs (.Tuple es k pos) (gL n m) := by
  obtain ⟨g, p, s⟩ := h
  exact ⟨_, pg_unl hc p hn hst, by rw [hK]; exact simG_lst s⟩
/-! blocks -/
def mSkip : MS := fun ρ st => .nx ρ st
def mSeq (a b : MS) : MS := fun ρ st => match a ρ st with
  | .nx ρ st => b ρ st
  | o => o
theorem sim_seq {ta tb : TS} {a b : MS} (ha : SimS G W ta a) (hb : SimS G W tb b) : SimS G W (tSeq ta tb) (mSeq a b) := by
  intro σ ρ H F ad st D R S h
  refine ha σ ρ H F ad st _ R S ?_
  unfold mSeq at h
  revert h
  generalize a ρ st = o
  intro h
  cases o with
  | nx ρ1 st1 => exact fun H1 F1 ad1 σ1 e1 S1 R1 => hb σ1 ρ1 H1 F1 ad1 st1 D R1 S1 (PoS.from e1 h)
  | rt d st1 => exact h
  | bk ρ1 st1 => exact h
  | ct ρ1 st1 => exact h
  | er c fs ρ1 st1 => exact h
  | bad => exact h
theorem dss_nil : DSs G W X [] mSkip := ⟨_, pss_nil, fun σ ρ H F ad st D R S h => h H F ad σ Ext.refl S R⟩
theorem dss_one {s : Stmt} {m : MS} (h : DS G W X s m) : DSs G W X [s] m := by
  obtain ⟨t, p, z⟩ := h
  exact ⟨_, pss_one p, z⟩
theorem dss_cons {s : Stmt} {r : List Stmt} {m ms : MS} (h : DS G W X s m) (hr : DSs G W X r ms) : DSs G W X (s :: r) (mSeq m ms) := by
  obtain ⟨t, p, z⟩ := h
  obtain ⟨tr, pr, zr⟩ := hr
  exact ⟨_, pss_cons p pr, sim_seq z zr⟩
/-! from expressions to statements -/
def outE (r : Res Va) (ρ : Ev) (k : Va → Sto → Out) : Out := match r with
  | .ok v st => k v st
  | .er c fs st => .er c fs ρ st
  | .bad => .bad
theorem simE_out {tt : TE} {mt : ME} (ht : SimE G W tt mt) {k : Va → Sto → Out} {σ : L2.St} {ρ : Ev} {H F : Hp} {ad : List Addr} {st : Sto} {D : Ends} {Q : VK} (R : RelE G F ad σ ρ) (S : SR G H F ad st)
    (h : PoS G W H F ad D (outE (mt ρ st) ρ k)) (q : ∀ x v st1 H1 F1 ad1, Ext H F ad H1 F1 ad1 → RelE G F1 ad1 σ ρ → SR G H1 F1 ad1 st1 → RepV G F1 ad1 v x → PoS G W H1 F1 ad1 D (k x st1) → Q v H1) : tt σ H Q := by
  refine ht σ ρ H F ad st _ R S ?_
  unfold outE at h
  revert h
  generalize mt ρ st = ra
  intro h
  cases ra with
  | bad => exact h
  | er c fs st1 => exact fun H' F' ad' cls d e S' z => h H' F' ad' σ cls d e S' (R.ext e) z
  | ok x st1 => exact fun H1 F1 ad1 e1 S1 v rv => q x v st1 H1 F1 ad1 e1 (R.ext e1) S1 rv (PoS.from e1 h)
def outT (r : Res Bool) (ρ : Ev) (k : Bool → Sto → Out) : Out := match r with
  | .ok v st => k v st
  | .er c fs st => .er c fs ρ st
  | .bad => .bad
theorem simT_out {tt : TT} {mt : MT} (ht : SimT G W tt mt) {k : Bool → Sto → Out} {σ : L2.St} {ρ : Ev} {H F : Hp} {ad : List Addr} {st : Sto} {D : Ends} {Q : Bool → Hp → Prop} (R : RelE G F ad σ ρ) (S : SR G H F ad st)
    (h : PoS G W H F ad D (outT (mt ρ st) ρ k)) (q : ∀ b st1 H1 F1 ad1, Ext H F ad H1 F1 ad1 → RelE G F1 ad1 σ ρ → SR G H1 F1 ad1 st1 → PoS G W H1 F1 ad1 D (k b st1) → Q b H1) : tt σ H Q := by
  refine ht σ ρ H F ad st _ R S ?_
  unfold outT at h
  revert h
  generalize mt ρ st = ra
  intro h
  cases ra with
  | bad => exact h
  | er c fs st1 => exact fun H' F' ad' cls d e S' z => h H' F' ad' σ cls d e S' (R.ext e) z
  | ok x st1 => exact fun H1 F1 ad1 e1 S1 => q x st1 H1 F1 ad1 e1 (R.ext e1) S1 (PoS.from e1 h)
def mRet (a : ME) : MS := fun ρ st => outE (a ρ st) ρ fun v st => .rt v st
theorem ds_ret {e : Expr} {pos : Pos} {m : ME} (h : DE G W X e m) : DS G W X (.Return (some e) pos) (mRet m) := by
  obtain ⟨t, p, s⟩ := h
  refine ⟨_, ps_ret p, ?_⟩
  intro σ ρ H F ad st D R S h
  exact simE_out s R S h fun x v st1 H1 F1 ad1 _ R1 S1 rv h1 => h1 H1 F1 ad1 v Ext.refl S1 rv
def mRetN : MS := fun _ st => .rt (.d .non) st
theorem ds_retN {pos : Pos} : DS G W X (.Return none pos) mRetN := ⟨_, ps_retN, fun σ ρ H F ad st D R S h => h H F ad _ Ext.refl S .non⟩
theorem ds_pass {pos : Pos} : DS G W X (.Pass pos) mSkip := ⟨_, ps_pass, fun σ ρ H F ad st D R S h => h H F ad σ Ext.refl S R⟩
def mBrk : MS := fun ρ st => .bk ρ st
def mCnt : MS := fun ρ st => .ct ρ st
theorem ds_break {pos : Pos} : DS G W X (.Break pos) mBrk := ⟨_, ps_break, fun σ ρ H F ad st D R S h => h H F ad σ Ext.refl S R⟩
theorem ds_continue {pos : Pos} : DS G W X (.Continue pos) mCnt := ⟨_, ps_continue, fun σ ρ H F ad st D R S h => h H F ad σ Ext.refl S R⟩
theorem ds_doc {z : Str} {j p pos} : DS G W X (.Expr (.Constant (.str z) j p) pos) mSkip := ⟨_, ps_doc, fun σ ρ H F ad st D R S h => h H F ad σ Ext.refl S R⟩
def mExpr (a : ME) : MS := fun ρ st => outE (a ρ st) ρ fun _ st => .nx ρ st
theorem ds_expr {s : Stmt} {e : Expr} {m : ME} (hp : ∀ {t : TE}, PE X e t → PS X s (tDrop t)) (h : DE G W X e m) : DS G W X s (mExpr m) := by
  obtain ⟨t, p, sm⟩ := h
  refine ⟨_, hp p, ?_⟩
  intro σ ρ H F ad st D R S h
  exact simE_out sm R S h fun x v st1 H1 F1 ad1 _ R1 S1 rv h1 => h1 H1 F1 ad1 σ Ext.refl S1 R1
def mAsg (a : ME) (g : MG) : MS := fun ρ st => outE (a ρ st) ρ fun v st => match g v ρ with
  | some ρ' => .nx ρ' st
  | none => .bad
theorem sim_asg {te : TE} {m : ME} {g : TG} {mg : MG} {vs : List Nat} (s : SimE G W te m) (hg : SimG G vs g mg) : SimS G W (tAsg te g) (mAsg m mg) := by
  intro σ ρ H F ad st D R S h
  refine simE_out s R S h fun x v st1 H1 F1 ad1 _ R1 S1 rv h1 => ?_
  cases z : mg x ρ with
  | none => rw [z] at h1; exact h1.elim
  | some ρ' =>
    rw [z] at h1
    exact hg v x σ ρ ρ' H1 F1 ad1 st1 _ rv R1 S1 z fun σ' _ R' => h1 H1 F1 ad1 σ' Ext.refl S1 R'
/-- x = e -/
theorem ds_set {s : Stmt} {e : Expr} {m : ME} {i : Nat} (hs : G.Stb) (hp : ∀ {t : TE}, PE X e t → PS X s (tAsg t (gName i))) (h : DE G W X e m) : DS G W X s (mAsg m (gN i)) := by
  obtain ⟨t, p, sm⟩ := h
  exact ⟨_, hp p, sim_asg sm (simG_name (vs := [i]) hs (List.mem_singleton.mpr rfl))⟩
/-- a, b = e -/
theorem ds_asg {tg e : Expr} {pos : Pos} {m : ME} {mg : MG} {vs : List Nat} (h : DE G W X e m) (hg : DG G X vs tg mg) (hp : ∀ {t : TE} {g : TG}, PE X e t → PG X tg g → PS X (.Assign [tg] e pos) (tAsg t g)) : DS G W X (.Assign [tg] e pos) (mAsg m mg) := by
  obtain ⟨t, p, sm⟩ := h
  obtain ⟨g, pg, sg⟩ := hg
  exact ⟨_, hp p pg, sim_asg sm sg⟩
def mPar (is : List Nat) (a : MA) : MS := fun ρ st => match a ρ st with
  | .ok vs st => if vs.length = is.length then .nx ((is.zip vs).foldl (fun ρ p => ρ.set p.1 (some p.2)) ρ) st else .bad
  | .er c fs st => .er c fs ρ st
  | .bad => .bad
theorem ds_par {s : Stmt} {es : List Expr} {m : MA} {i j : Nat} (hs : G.Stb) (hp : ∀ {t : TA}, PA X es t → PS X s (tPar i j t)) (h : DA G W X es m) : DS G W X s (mPar [i, j] m) := by
  obtain ⟨t, p, sm⟩ := h
  refine ⟨_, hp p, ?_⟩
  intro σ ρ H F ad st D R S h
  refine sm σ ρ H F ad st _ R S ?_
  unfold mPar at h
  revert h
  generalize m ρ st = ra
  intro h
  cases ra with
  | bad => exact h
  | er c fs st1 => exact fun H' F' ad' cls d e S' z => h H' F' ad' σ cls d e S' (R.ext e) z
  | ok xs st1 =>
    intro H1 F1 ad1 e1 S1 ws rw
    match xs, rw, h with
    | [], _, h => exact h.elim
    | [_], _, h => exact h.elim
    | _ :: _ :: _ :: _, _, h =>
      have h : PoS G W H F ad D (if _ = 2 then _ else .bad) := h
      rw [if_neg (by simp)] at h
      exact h.elim
    | [x, y], .cons (a := v) r1 (.cons (a := w) r2 .nil), h =>
      exact ⟨v, w, rfl, h H1 F1 ad1 _ e1 S1 (((R.ext e1).set hs r1).set hs r2)⟩
theorem ds_par3 {s : Stmt} {es : List Expr} {m : MA} {i j l : Nat} {tp : TA → TS} (hs : G.Stb) (hp : ∀ {t : TA}, PA X es t → PS X s (tp t)) (ht : tp = fun ta D σ H => ta σ H fun vs H1 => ∃ v w u, vs = [v, w, u] ∧ D.nx (((σ.set i (some v)).set j (some w)).set l (some u)) H1) (h : DA G W X es m) : DS G W X s (mPar [i, j, l] m) := by
  obtain ⟨t, p, sm⟩ := h
  refine ⟨_, hp p, ?_⟩
  subst ht
  intro σ ρ H F ad st D R S h
  refine sm σ ρ H F ad st _ R S ?_
  unfold mPar at h
  revert h
  generalize m ρ st = ra
  intro h
  cases ra with
  | bad => exact h
  | er c fs st1 => exact fun H' F' ad' cls d e S' z => h H' F' ad' σ cls d e S' (R.ext e) z
  | ok xs st1 =>
    intro H1 F1 ad1 e1 S1 ws rw
    match xs, rw, h with
    | [], _, h => exact h.elim
    | [_], _, h => exact h.elim
    | [_, _], _, h => exact h.elim
    | _ :: _ :: _ :: _ :: _, _, h =>
      have h : PoS G W H F ad D (if _ = 3 then _ else .bad) := h
      rw [if_neg (by simp)] at h
      exact h.elim
    | [x, y, z], .cons (a := v) r1 (.cons (a := w) r2 (.cons (a := u) r3 .nil)), h =>
      exact ⟨v, w, u, rfl, h H1 F1 ad1 _ e1 S1 ((((R.ext e1).set hs r1).set hs r2).set hs r3)⟩
def mIfS (t : MT) (a b : MS) : MS := fun ρ st => outT (t ρ st) ρ fun x st => if x then a ρ st else b ρ st
theorem ds_if {c : Expr} {body orelse : List Stmt} {pos : Pos} {mt : MT} {ma mb : MS} (hc : DT G W X c mt) (ha : DSs G W X body ma) (hb : DSs G W X orelse mb) : DS G W X (.If c body orelse pos) (mIfS mt ma mb) := by
  obtain ⟨tc, pc, sc⟩ := hc
  obtain ⟨ta, pa, sa⟩ := ha
  obtain ⟨tb, pb, sb⟩ := hb
  refine ⟨_, ps_if pc pa pb, ?_⟩
  intro σ ρ H F ad st D R S h
  refine simT_out sc R S h fun b st1 H1 F1 ad1 _ R1 S1 h1 => ?_
  cases b with
  | true => rw [if_pos rfl] at h1 ⊢; exact sa σ ρ H1 F1 ad1 st1 D R1 S1 h1
  | false => rw [if_neg Bool.false_ne_true] at h1 ⊢; exact sb σ ρ H1 F1 ad1 st1 D R1 S1 h1
/-! o.f = e -/
def putS (f : String) (v : Va) : List (String × Va) → List (String × Va)
  | [] => [(f, v)]
  | (g, w) :: r => if f = g then (f, v) :: r else (g, w) :: putS f v r
def mSetF (f : String) (o e : ME) : MS := fun ρ st => outE (e ρ st) ρ fun y st => outE (o ρ st) ρ fun x st => match x with
  | .ref n => (match st[n]? with
    | some (.obj c fs) => if fs.length < 100 then .nx ρ (st.set n (.obj c (putS f y fs))) else .bad
    | _ => .bad)
  | _ => .bad
theorem putS_ok {F : Hp} {ad : List Addr} {f : String} {v : V} {y : Va} (r : RepV G F ad v y) : ∀ {vfs : List (Str × V)} {fs : List (String × Va)}, RepFs G F ad vfs fs → RepFs G F ad (putF (Str.ofString f) v vfs) (putS f y fs)
  | _, _, .nil => .cons ⟨rfl, r⟩ .nil
  | _, _, @Paired.cons _ _ _ (g, w) (h, z) vfs fs ⟨e1, r2⟩ t => by
    have e1 : g = Str.ofString h := e1
    subst e1
    unfold putS putF
    by_cases hf : f = h
    · subst hf
      rw [if_pos rfl]
      first
        | (rw [if_pos rfl]; exact .cons ⟨rfl, r⟩ t)
        | (rw [if_pos (beq_self_eq_true _)]; exact .cons ⟨rfl, r⟩ t)
        | (simp only [beq_self_eq_true, if_true]; exact .cons ⟨rfl, r⟩ t)
    · rw [if_neg hf]
      have n2 : ¬ Str.ofString f = Str.ofString h := fun z => hf (ofS_inj z)
      have n3 : ¬ Str.ofString h = Str.ofString f := fun z => hf (ofS_inj z.symm)
      first
        | (rw [if_neg n2]; exact .cons ⟨rfl, r2⟩ (putS_ok r t))
        | (rw [if_neg n3]; exact .cons ⟨rfl, r2⟩ (putS_ok r t))
        | (rw [if_neg (by simpa using n2)]; exact .cons ⟨rfl, r2⟩ (putS_ok r t))
        | (rw [if_neg (by simpa using n3)]; exact .cons ⟨rfl, r2⟩ (putS_ok r t))
theorem ds_setF {o value : Expr} {f : String} {pos pos' : Pos} {mo mv : ME} (hK : X.K = G.K) (nf : NoAt G f) (ho : DE G W X o mo) (hv : DE G W X value mv) (hs : swapsWith value (some (.Attribute o (Str.ofString f) pos')) pos.line X.env = pure false) : DS G W X (.Assign [.Attribute o (Str.ofString f) pos'] value pos) (mSetF f mo mv) := by
  obtain ⟨to, po, so⟩ := ho
  obtain ⟨tv, pv, sv⟩ := hv
  refine ⟨_, ps_fld po pv hs, ?_⟩
  intro σ ρ H F ad st D R S h
  refine simE_out sv R S h fun y v st1 H1 F1 ad1 _ R1 S1 rv h1 => ?_
  refine simE_out so R1 S1 h1 fun x u st2 H2 F2 ad2 e2 R2 S2 ru h2 => ?_
  cases x with
  | d x => exact h2.elim
  | ref n =>
    obtain ⟨a, ha, rfl⟩ := ru
    replace h2 : PoS G W H2 F2 ad2 D (match st2[n]? with
      | some (.obj c fs) => if fs.length < 100 then .nx ρ (st2.set n (.obj c (putS f y fs))) else .bad
      | _ => .bad) := h2
    cases z : st2[n]? with
    | none => rw [z] at h2; exact h2.elim
    | some ob =>
      rw [z] at h2
      cases ob with
      | obj c fs =>
        have h2 : PoS G W H2 F2 ad2 D (if fs.length < 100 then .nx ρ (st2.set n (.obj c (putS f y fs))) else .bad) := h2
        split at h2
        · rename_i hl
          obtain ⟨hc, dx, vfs, q1, q2⟩ := S2.get ha z
          refine ⟨a, _, dx, vfs, rfl, q1, by rw [hK]; exact (G.cok c hc).cl, by rw [hK]; exact nf c hc, by rw [Paired.length q2]; omega, ?_⟩
          have E := ext_mut (o := .ins (G.ca c) dx (putF (Str.ofString f) v vfs)) S2 ha
          exact h2 _ _ _ σ E (S2.mut (m := .obj c (putS f y fs)) ha ⟨hc, dx, _, upd_same, putS_ok (rv.ext e2) q2⟩) (R2.ext E)
        · exact h2.elim
      | _ => exact h2.elim
/-! xs[i] = e -/
def mSetI (o i e : ME) : MS := fun ρ st => outE (e ρ st) ρ fun y st => outE (o ρ st) ρ fun x st => outE (i ρ st) ρ fun k st => match x, k with
  | .ref n, .d (.int k) => (match st[n]? with
    | some (.lst xs) => (match ixN xs.length k with
      | some j => .nx ρ (st.set n (.lst (xs.set j y)))
      | none => .bad)
    | _ => .bad)
  | _, _ => .bad
theorem Paired.set {α β : Type} {R : α → β → Prop} {a : α} {b : β} (h : R a b) : ∀ {xs : List α} {ys : List β} (j : Nat), Paired R xs ys → Paired R (xs.set j a) (ys.set j b)
  | _, _, _, .nil => .nil
  | _, _, 0, .cons _ t => .cons h t
  | _, _, j + 1, .cons r t => .cons r (Paired.set h j t)
theorem ds_setI {o i value : Expr} {tp pos : Pos} {mo mi mv : ME} (ho : DE G W X o mo) (hi : DE G W X i mi) (hv : DE G W X value mv) (hp : ∀ {t to ti : TE}, PE X value t → PE X o to → PE X i ti → PS X (.Assign [.Subscript o i tp] value pos) (tAsg t (gSub to ti rSetL))) : DS G W X (.Assign [.Subscript o i tp] value pos) (mSetI mo mi mv) := by
  obtain ⟨to, po, so⟩ := ho
  obtain ⟨ti, pi, si⟩ := hi
  obtain ⟨tv, pv, sv⟩ := hv
  refine ⟨_, hp pv po pi, ?_⟩
  intro σ ρ H F ad st D R S h
  refine simE_out sv R S h fun y v st1 H1 F1 ad1 _ R1 S1 rv h1 => ?_
  refine simE_out so R1 S1 h1 fun x u st2 H2 F2 ad2 e2 R2 S2 ru h2 => ?_
  refine simE_out si R2 S2 h2 fun k w st3 H3 F3 ad3 e3 R3 S3 rk h3 => ?_
  cases x with
  | d x => cases k with
    | ref _ => exact h3.elim
    | d k => cases k <;> exact h3.elim
  | ref n =>
    cases k with
    | ref _ => exact h3.elim
    | d k => cases k with
      | int k =>
        cases rk
        obtain ⟨a, ha, rfl⟩ := ru.ext e3
        have h3 : PoS G W H3 F3 ad3 D (match st3[n]? with
          | some (.lst xs) => (match ixN xs.length k with
            | some j => .nx ρ (st3.set n (.lst (xs.set j y)))
            | none => .bad)
          | _ => .bad) := h3
        cases z : st3[n]? with
        | none => rw [z] at h3; exact h3.elim
        | some ob =>
          rw [z] at h3
          cases ob with
          | lst xs =>
            have h3 : PoS G W H3 F3 ad3 D (match ixN xs.length k with
              | some j => .nx ρ (st3.set n (.lst (xs.set j y)))
              | none => .bad) := h3
            obtain ⟨vs, q1, q2⟩ := S3.get ha z
            cases zj : ixN xs.length k with
            | none => rw [zj] at h3; exact h3.elim
            | some j =>
              rw [zj] at h3
              refine ⟨a, vs, k, j, rfl, rfl, q1, by rw [Paired.length q2]; exact zj, ?_⟩
              have E := ext_mut (o := .lst (vs.set j v)) S3 ha
              exact h3 _ _ _ σ E (S3.mut (m := .lst (xs.set j y)) ha ⟨_, upd_same, Paired.set ((rv.ext e2).ext e3) j q2⟩) (R3.ext E)
          | _ => exact h3.elim
      | _ => exact h3.elim
/-! methods of lists -/
abbrev OM := Va → List Va → Sto → Res Va
def SimM (G : Ga) (r : V → List V → Hp → VK → Prop) (f : OM) : Prop := ∀ (Wv : Value → Option Addr → Hp → Prop) (x : V) (dx : Va) (vs : List V) (ds : List Va) (H F : Hp) (ad : List Addr) (st : Sto) (Q : VK), RepV G F ad x dx → RepVs G F ad vs ds → SR G H F ad st → Po G Wv H F ad (QV G Q) (f dx ds st) → r x vs H Q
/-- the receiver is a list, asked ahead of the arguments -/
def isLst : Va → Sto → Bool
  | .d (.lst _), _ => true
  | .ref n, st => match st[n]? with
    | some (.lst _) => true
    | _ => false
  | _, _ => false
theorem isLst_ok {H F : Hp} {ad : List Addr} {st : Sto} {v : V} {x : Va} (S : SR G H F ad st) (r : RepV G F ad v x) (e : isLst x st = true) : tyV G.K "list" v H := by
  cases x with
  | ref n =>
    obtain ⟨a, ha, rfl⟩ := r
    have e : (match st[n]? with
      | some (.lst _) => true
      | _ => false) = true := e
    cases z : st[n]? with
    | none => rw [z] at e; cases e
    | some o =>
      rw [z] at e
      cases o with
      | lst xs =>
        obtain ⟨vs, h1, h2⟩ := S.get ha z
        exact .inl ⟨rfl, _, SqL.of h1⟩
      | _ => cases e
  | d x => cases r with
    | lst h t => exact .inl ⟨rfl, _, SqL.of (S.sub _ _ h)⟩
    | _ => cases e
def mLM (f : OM) (o : ME) (m : MA) : ME := fun ρ st => (o ρ st).bind fun x st => if isLst x st then (m ρ st).bind fun xs st => f x xs st else .bad
theorem sim_lm {r : V → List V → Hp → VK → Prop} {f : OM} {to : TE} {t : TA} {mo : ME} {m : MA} (hr : SimM G r f) (so : SimE G W to mo) (s : SimA G W t m) : SimE G W (tBM G.K "list" r to t) (mLM f mo m) := by
  intro σ ρ H F ad st Q R S h
  refine simE_bind so R S h fun x v st1 H1 F1 ad1 _ R1 S1 rv h1 => ?_
  cases z : isLst x st1 with
  | false => rw [z] at h1; exact h1.elim
  | true =>
    rw [z, if_pos rfl] at h1
    refine ⟨isLst_ok S1 rv z, ?_⟩
    exact simA_bind s R1 S1 h1 fun xs vs st2 H2 F2 ad2 e2 R2 S2 rvs h2 => hr _ v x vs xs H2 F2 ad2 st2 Q (rv.ext e2) rvs S2 h2
theorem de_lm {X : Cx} {r : V → List V → Hp → VK → Prop} {f : OM} {o e : Expr} {ee : List Expr} {s : Expr} {mo : ME} {m : MA} (hK : X.K = G.K) (hp : ∀ {to : TE} {t : TA}, PE X o to → PA X (e :: ee) t → PE X s (tBM X.K "list" r to t)) (hs : SimM G r f) (ho : DE G W X o mo) (ha : DA G W X (e :: ee) m) : DE G W X s (mLM f mo m) := by
  obtain ⟨to, po, so⟩ := ho
  obtain ⟨t, p, st⟩ := ha
  refine ⟨_, hp po p, ?_⟩
  rw [hK]
  exact sim_lm hs so st
def oAppend : OM
  | .ref n, [y], st => match st[n]? with
    | some (.lst xs) => if xs.length < cap then .ok (.d .non) (st.set n (.lst (xs ++ [y]))) else .bad
    | _ => .bad
  | _, _, _ => .bad
theorem sim_append : SimM G rAppend oAppend := by
  intro Wv x dx vs ds H F ad st Q rx rv S h
  cases dx with
  | d x => cases ds with
    | nil => exact h.elim
    | cons d ds => cases ds <;> exact h.elim
  | ref n =>
    cases rv with
    | nil => exact h.elim
    | @cons v y _ _ r t => cases t with
      | cons _ _ => exact h.elim
      | nil =>
        obtain ⟨a, ha, rfl⟩ := rx
        have h : Po G Wv H F ad (QV G Q) (match st[n]? with
          | some (.lst xs) => if xs.length < cap then .ok (.d .non) (st.set n (.lst (xs ++ [y]))) else .bad
          | _ => .bad) := h
        cases z : st[n]? with
        | none => rw [z] at h; exact h.elim
        | some ob =>
          rw [z] at h
          cases ob with
          | lst xs =>
            have h : Po G Wv H F ad (QV G Q) (if xs.length < cap then .ok (.d .non) (st.set n (.lst (xs ++ [y]))) else .bad) := h
            split at h
            · rename_i hc
              obtain ⟨ws, q1, q2⟩ := S.get ha z
              refine ⟨a, ws, v, rfl, rfl, q1, by rw [Paired.length q2]; exact Nat.lt_of_lt_of_le hc (by decide), ?_⟩
              have E := ext_mut (o := .lst (ws ++ [v])) S ha
              exact h _ _ _ E (S.mut (m := .lst (xs ++ [y])) ha ⟨_, upd_same, Paired.append q2 (.cons r .nil)⟩) _ .non
            · exact h.elim
          | _ => exact h.elim
end

/-! ### loops -/
section
variable {G : Ga} {W : L2.WX} {X : Cx}
structure Its where
  xs : List Va
  gd : Option (Nat × List Va) := none
def gOk : Option (Nat × List Va) → Sto → Prop
  | none, _ => True
  | some (n, xs), st => st[n]? = some (.lst xs)
abbrev MI := Ev → Sto → Res Its
abbrev Pre (ad0 ad : List Addr) : Prop := ∃ zs, ad = ad0 ++ zs
structure WalkR (G : Ga) (J : It) (F0 : Hp) (ad0 : List Addr) (it : Its) : Prop where
  goes : ∀ (i : Nat) (H F : Hp) (ad : List Addr) (st : Sto), Same F0 F → Pre ad0 ad → SR G H F ad st → gOk it.gd st → i < it.xs.length → J.go i H
  stops : ∀ (H F : Hp) (ad : List Addr) (st : Sto), Same F0 F → Pre ad0 ad → SR G H F ad st → gOk it.gd st → J.stop it.xs.length H
  yields : ∀ (i : Nat) (H F : Hp) (ad : List Addr) (st : Sto) (v : V) (H' : Hp), Same F0 F → Pre ad0 ad → SR G H F ad st → gOk it.gd st → i < it.xs.length → J.yld i H v H' →
    ∃ F' x, Ext H F ad H' F' ad ∧ SR G H' F' ad st ∧ it.xs[i]? = some x ∧ RepV G F' ad v x
def SimI (G : Ga) (W : L2.WX) (t : TI) (m : MI) : Prop := ∀ (σ : L2.St) (ρ : Ev) (H F : Hp) (ad : List Addr) (st : Sto) (R : It → Hp → Prop), RelE G F ad σ ρ → SR G H F ad st →
  Po G (fun c d H' => W c d σ H') H F ad (fun it _ H' F' ad' => ∀ J, WalkR G J F' ad' it → R J H') (m ρ st) → t σ H R
def DI (G : Ga) (W : L2.WX) (X : Cx) (tg e : Expr) (m : MI) : Prop := ∃ t, PI X tg e t ∧ SimI G W t m
/-- what is walked may be a list or a tuple -/
def SeqIt (K : PySem.W.Frag) (a : Addr) (H : Hp) (J : It) : Prop := ((∃ xs, SqL K H a xs) ∧ J = Itl K a) ∨ ((∃ xs, SqT K H a xs) ∧ J = Itt K a)
def iSeq (K : PySem.W.Frag) (tl : TE) : TI := fun σ H R => tl σ H fun x H1 => ∃ a, x = .ref a ∧ ∃ J, SeqIt K a H1 J ∧ R J H1
theorem pi_seq {tg l : Expr} {tl : TE} (hl : PE X l tl) : PI X tg l (iSeq X.K tl) := by
  refine ⟨fun pins s σ H R I h => ?_⟩
  refine thn (hl.run pins s σ H _ I h) fun v s1 ⟨x, H1, I1, r1, q1⟩ => ?_
  obtain ⟨a, e, J, hJ, q⟩ := q1
  subst e
  cases r1
  rcases hJ with ⟨⟨xs, hq⟩, rfl⟩ | ⟨⟨xs, hq⟩, rfl⟩
  · obtain ⟨its, rv, p, hz⟩ := I1.list hq
    refine wpAny_pyIter_list p.isList ?_
    refine ⟨s1.heap.objs.size, [s1.heap.objs.size], _, _, H1, rfl, I1.kept (t' := s1.toks) fun b o e => Heap.get?_push_of_some _ e, turn_list a _, ⟨_, Heap.get?_push_size _ rfl, rfl, rfl⟩, fun b hb => ?_, q⟩
    have e : b = s1.heap.objs.size := by simpa using hb
    subst e
    exact I1.fpOk (Nat.le_refl _) (I1.hok.fresh (Nat.le_refl _))
  · obtain ⟨its, rv, p, hz⟩ := I1.tuple hq
    refine wpAny_pyIter_tuple (show s1.heap.IsTuple a its.toArray from p) ?_
    refine ⟨s1.heap.objs.size, [s1.heap.objs.size], _, _, H1, rfl, I1.kept (t' := s1.toks) fun b o e => Heap.get?_push_of_some _ e, turn_tuple a _, ⟨_, Heap.get?_push_size _ rfl, rfl, rfl⟩, fun b hb => ?_, q⟩
    have e : b = s1.heap.objs.size := by simpa using hb
    subst e
    exact I1.fpOk (Nat.le_refl _) (I1.hok.fresh (Nat.le_refl _))
def itSeq : Va → Sto → Option Its
  | .d (.lst xs), _ => some ⟨xs.map Va.d, none⟩
  | .d (.tup xs), _ => some ⟨xs.map Va.d, none⟩
  | .ref n, st => match st[n]? with
    | some (.lst xs) => some ⟨xs, some (n, xs)⟩
    | _ => none
  | _, _ => none
def mItS (a : ME) : MI := fun ρ st => (a ρ st).bind fun x st => match itSeq x st with
  | some it => .ok it st
  | none => .bad
theorem walkR_list {F0 : Hp} {ad0 : List Addr} {a : Addr} {vs : List V} {ds : List D} (h : F0 a = some (.lst vs)) (t : Reps G F0 vs ds) : WalkR G (Itl G.K a) F0 ad0 ⟨ds.map Va.d, none⟩ := by
  have wk := walk_list (K := G.K) (a := a) (xs := vs)
  have sq : ∀ {H F : Hp} {ad : List Addr} {st : Sto}, Same F0 F → SR G H F ad st → SqL G.K H a vs := fun s S => SqL.of (S.sub _ _ (s _ _ h))
  have hl : (ds.map Va.d).length = vs.length := by rw [List.length_map, t.length]
  refine ⟨fun i H F ad st s _ S _ hi => wk.goes i H (by rw [← hl]; exact hi) (sq s S), fun H F ad st s _ S _ => by show Itl G.K a |>.stop _ _; rw [hl]; exact wk.stops H (sq s S), fun i H F ad st v H' s _ S _ hi y => ?_⟩
  obtain ⟨e, hv⟩ := wk.yields i H v H' (by rw [← hl]; exact hi) (sq s S) y
  subst e
  have hi2 : i < ds.length := by simpa using hi
  obtain ⟨w, hw, r⟩ := t.get (List.getElem?_eq_getElem hi2)
  rw [hv] at hw
  cases hw
  exact ⟨F, .d ds[i], Ext.refl, S, by simp [List.getElem?_map, List.getElem?_eq_getElem hi2], Rep.same s r⟩
theorem walkR_tup {F0 : Hp} {ad0 : List Addr} {a : Addr} {vs : List V} {ds : List D} (h : SqT G.K F0 a vs) (t : Reps G F0 vs ds) : WalkR G (Itt G.K a) F0 ad0 ⟨ds.map Va.d, none⟩ := by
  have wk := walk_tup (K := G.K) (a := a) (xs := vs)
  have sq : ∀ {H F : Hp} {ad : List Addr} {st : Sto}, Same F0 F → SR G H F ad st → SqT G.K H a vs := fun s S => sqT_same S.sub (sqT_same s h)
  have hl : (ds.map Va.d).length = vs.length := by rw [List.length_map, t.length]
  refine ⟨fun i H F ad st s _ S _ hi => wk.goes i H (by rw [← hl]; exact hi) (sq s S), fun H F ad st s _ S _ => by show Itt G.K a |>.stop _ _; rw [hl]; exact wk.stops H (sq s S), fun i H F ad st v H' s _ S _ hi y => ?_⟩
  obtain ⟨e, hv⟩ := wk.yields i H v H' (by rw [← hl]; exact hi) (sq s S) y
  subst e
  have hi2 : i < ds.length := by simpa using hi
  obtain ⟨w, hw, r⟩ := t.get (List.getElem?_eq_getElem hi2)
  rw [hv] at hw
  cases hw
  exact ⟨F, .d ds[i], Ext.refl, S, by simp [List.getElem?_map, List.getElem?_eq_getElem hi2], Rep.same s r⟩
theorem walkR_cell {F0 : Hp} {ad0 : List Addr} {a : Addr} {n : Nat} {xs : List Va} (h : ad0[n]? = some a) : WalkR G (Itl G.K a) F0 ad0 ⟨xs, some (n, xs)⟩ := by
  have sq : ∀ {H F : Hp} {ad : List Addr} {st : Sto}, Pre ad0 ad → SR G H F ad st → gOk (some (n, xs)) st → ∃ vs, H a = some (.lst vs) ∧ RepVs G F ad vs xs := fun {H F ad st} p S g => by
    obtain ⟨zs, rfl⟩ := p
    exact S.get (by rw [List.getElem?_append_left (List.getElem?_eq_some_iff.mp h).1]; exact h) g
  refine ⟨fun i H F ad st s p S g hi => ?_, fun H F ad st s p S g => ?_, fun i H F ad st v H' s p S g hi y => ?_⟩
  · obtain ⟨vs, h1, h2⟩ := sq p S g
    exact (walk_list (K := G.K) (a := a) (xs := vs)).goes i H (by rw [Paired.length h2]; exact hi) (SqL.of h1)
  · obtain ⟨vs, h1, h2⟩ := sq p S g
    have := (walk_list (K := G.K) (a := a) (xs := vs)).stops H (SqL.of h1)
    rw [Paired.length h2] at this
    exact this
  · obtain ⟨vs, h1, h2⟩ := sq p S g
    obtain ⟨e, hv⟩ := (walk_list (K := G.K) (a := a) (xs := vs)).yields i H v H' (by rw [Paired.length h2]; exact hi) (SqL.of h1) y
    subst e
    obtain ⟨w, hw, r⟩ := Paired.getR h2 i _ (List.getElem?_eq_getElem hi)
    rw [hv] at hw
    cases hw
    exact ⟨F, _, Ext.refl, S, List.getElem?_eq_getElem hi, r⟩
theorem di_seq {tg e : Expr} {m : ME} (hK : X.K = G.K) (he : DE G W X e m) : DI G W X tg e (mItS m) := by
  obtain ⟨t, p, s⟩ := he
  refine ⟨_, pi_seq p, ?_⟩
  rw [hK]
  intro σ ρ H F ad st R Re S h
  refine simE_bind s Re S h fun x v st1 H1 F1 ad1 _ R1 S1 rv h1 => ?_
  cases z : itSeq x st1 with
  | none => rw [z] at h1; exact h1.elim
  | some it =>
    rw [z] at h1
    have h1 := fin_same S1 h1
    cases x with
    | ref n =>
      obtain ⟨a, ha, rfl⟩ := rv
      replace z : (match st1[n]? with
        | some (.lst xs) => some ⟨xs, some (n, xs)⟩
        | _ => none) = some it := z
      cases zz : st1[n]? with
      | none => rw [zz] at z; cases z
      | some ob =>
        rw [zz] at z
        cases ob with
        | lst xs =>
          cases z
          obtain ⟨vs, q1, q2⟩ := S1.get ha zz
          exact ⟨a, rfl, _, .inl ⟨⟨vs, SqL.of q1⟩, rfl⟩, h1 _ (walkR_cell ha)⟩
        | _ => cases z
    | d x => cases rv with
      | @lst a vs ds q t => cases z; exact ⟨a, rfl, _, .inl ⟨⟨vs, SqL.of (S1.sub _ _ q)⟩, rfl⟩, h1 _ (walkR_list q t)⟩
      | @tup a vs ds q t => cases z; exact ⟨a, rfl, _, .inr ⟨⟨vs, sqT_same S1.sub q⟩, rfl⟩, h1 _ (walkR_tup q t)⟩
      | _ => cases z
/-! ranges -/
def rangeV (lo : Int) (n : Nat) : List Va := (List.range n).map fun (i : Nat) => Va.d (.int (lo + i))
theorem walkR_range {F0 : Hp} {ad0 : List Addr} {lo : Int} {n : Nat} : WalkR G (Itr lo n) F0 ad0 ⟨rangeV lo n, none⟩ := by
  have wk := walk_range (lo := lo) (n := n)
  have hl : (rangeV lo n).length = n := by unfold rangeV; rw [List.length_map, List.length_range]
  refine ⟨fun i H F ad st s _ S _ hi => wk.goes i H (by rw [← hl]; exact hi) trivial, fun H F ad st s _ S _ => by show Itr lo n |>.stop _ _; rw [hl]; exact wk.stops H trivial, fun i H F ad st v H' s _ S _ hi y => ?_⟩
  have hi : i < n := by rw [← hl]; exact hi
  obtain ⟨e, hv⟩ := wk.yields i H v H' hi trivial y
  subst e hv
  refine ⟨F, .d (.int (lo + i)), Ext.refl, S, ?_, .int _⟩
  unfold rangeV
  rw [List.getElem?_map, List.getElem?_range hi]
  rfl
def inR (i : Int) : Bool := decide (-1000000000 ≤ i) && decide (i ≤ 1000000000)
def mItR1 (m : MA) : MI := fun ρ st => (m ρ st).bind fun xs st => match xs with
  | [.d (.int j)] => if inR j then .ok ⟨rangeV 0 j.toNat, none⟩ st else .bad
  | _ => .bad
def mItR2 (m : MA) : MI := fun ρ st => (m ρ st).bind fun xs st => match xs with
  | [.d (.int i), .d (.int j)] => if inR i && inR j then .ok ⟨rangeV i (j - i).toNat, none⟩ st else .bad
  | _ => .bad
theorem inR_ok {i : Int} (h : inR i = true) : -(2 ^ 62) ≤ i ∧ i < 2 ^ 62 := by
  unfold inR at h
  rw [Bool.and_eq_true] at h
  have h1 := of_decide_eq_true h.1
  have h2 := of_decide_eq_true h.2
  omega
theorem di_range1 {tg s : Expr} {es : List Expr} {m : MA} (hp : ∀ {t : TA}, PA X es t → PI X tg s (iRng1 t)) (h : DA G W X es m) : DI G W X tg s (mItR1 m) := by
  obtain ⟨t, p, sm⟩ := h
  refine ⟨_, hp p, ?_⟩
  intro σ ρ H F ad st R Re S h
  refine simA_bind sm Re S h fun xs vs st1 H1 F1 ad1 _ R1 S1 rv h1 => ?_
  match xs, rv, h1 with
  | [], _, h1 => exact h1.elim
  | [.ref _], _, h1 => exact h1.elim
  | [.d x], .cons r .nil, h1 =>
    cases r with
    | int j =>
      have h1 : Po G _ H1 F1 ad1 _ (if inR j then Res.ok (Its.mk (rangeV 0 j.toNat) none) st1 else .bad) := h1
      split at h1
      · rename_i hc
        obtain ⟨a, b⟩ := inR_ok hc
        exact ⟨j, rfl, a, b, fin_same S1 h1 _ walkR_range⟩
      · exact h1.elim
    | _ => exact h1.elim
  | .ref _ :: _ :: _, _, h1 => exact h1.elim
  | .d x :: _ :: _, _, h1 => cases x <;> exact h1.elim
theorem di_range2 {tg s : Expr} {es : List Expr} {m : MA} (hp : ∀ {t : TA}, PA X es t → PI X tg s (iRng2 t)) (h : DA G W X es m) : DI G W X tg s (mItR2 m) := by
  obtain ⟨t, p, sm⟩ := h
  refine ⟨_, hp p, ?_⟩
  intro σ ρ H F ad st R Re S h
  refine simA_bind sm Re S h fun xs vs st1 H1 F1 ad1 _ R1 S1 rv h1 => ?_
  match xs, rv, h1 with
  | [], _, h1 => exact h1.elim
  | [.ref _], _, h1 => exact h1.elim
  | [.d x], _, h1 => cases x <;> exact h1.elim
  | [.ref _, _], _, h1 => exact h1.elim
  | [.d x, .ref _], _, h1 => cases x <;> exact h1.elim
  | [.d x, .d y], .cons r (.cons r2 .nil), h1 =>
    cases r with
    | int i => cases r2 with
      | int j =>
        have h1 : Po G _ H1 F1 ad1 _ (if inR i && inR j then Res.ok (Its.mk (rangeV i (j - i).toNat) none) st1 else .bad) := h1
        split at h1
        · rename_i hc
          rw [Bool.and_eq_true] at hc
          obtain ⟨a, b⟩ := inR_ok hc.1
          obtain ⟨c, d⟩ := inR_ok hc.2
          exact ⟨i, j, rfl, ⟨a, b, c, d⟩, fin_same S1 h1 _ walkR_range⟩
        · exact h1.elim
      | _ => exact h1.elim
    | _ => exact h1.elim
  | .ref _ :: _ :: _ :: _, _, h1 => exact h1.elim
  | .d x :: .ref _ :: _ :: _, _, h1 => cases x <;> exact h1.elim
  | .d x :: .d y :: _ :: _, _, h1 => cases x <;> (try exact h1.elim) <;> cases y <;> exact h1.elim
/-! a new pair each turn -/
theorem walkR_pair {J : It} {F0 : Hp} {ad0 : List Addr} {vs ws : Nat → Option V} {ds : List (D × D)} (G' : Hp → Prop) (wk : Walk J ds.length G' (YPair vs ws)) (hg : ∀ (H F : Hp) (ad : List Addr) (st : Sto), Same F0 F → SR G H F ad st → G' H)
    (hr : ∀ i d, ds[i]? = some d → ∀ x y, vs i = some x → ws i = some y → Rep G F0 x d.1 ∧ Rep G F0 y d.2) : WalkR G J F0 ad0 ⟨ds.map fun d => Va.d (.tup [d.1, d.2]), none⟩ := by
  have hl : (ds.map fun d => Va.d (.tup [d.1, d.2])).length = ds.length := List.length_map _
  refine ⟨fun i H F ad st s _ S _ hi => wk.goes i H (by rw [← hl]; exact hi) (hg _ _ _ _ s S), fun H F ad st s _ S _ => by show J.stop _ _; rw [hl]; exact wk.stops H (hg _ _ _ _ s S), fun i H F ad st v H' s _ S _ hi y => ?_⟩
  have hi : i < ds.length := by rw [← hl]; exact hi
  obtain ⟨T, x, z, rfl, hT, rfl, hx, hz⟩ := wk.yields i H v H' hi (hg _ _ _ _ s S) y
  obtain ⟨r1, r2⟩ := hr i _ (List.getElem?_eq_getElem hi) x z hx hz
  have E := ext_new S (o := .tup [x, z]) hT
  refine ⟨_, _, E, S.new hT, by rw [List.getElem?_map, List.getElem?_eq_getElem hi]; rfl, ?_⟩
  exact .tup (SqT.of upd_same) (.cons ((r1.same s).same E.fz) (.cons ((r2.same s).same E.fz) .nil))
def mItZ (m : MA) : MI := fun ρ st => (m ρ st).bind fun xs st => match xs with
  | [.d (.lst a), .d (.lst b)] => .ok ⟨(a.zip b).map fun d => Va.d (.tup [d.1, d.2]), none⟩ st
  | _ => .bad
theorem walkR_zip {F0 : Hp} {ad0 : List Addr} {p q : Addr} {vs ws : List V} {a b : List D} (h1 : F0 p = some (.lst vs)) (t1 : Reps G F0 vs a) (h2 : F0 q = some (.lst ws)) (t2 : Reps G F0 ws b) : WalkR G (Itz G.K p q) F0 ad0 ⟨(a.zip b).map fun d => Va.d (.tup [d.1, d.2]), none⟩ := by
  refine walkR_pair (ds := a.zip b) (fun H => SqL G.K H p vs ∧ SqL G.K H q ws) (walk_zip (by rw [List.length_zip, t1.length, t2.length])) (fun H F ad st s S => ⟨SqL.of (S.sub _ _ (s _ _ h1)), SqL.of (S.sub _ _ (s _ _ h2))⟩) fun i d e x y hx hy => ?_
  obtain ⟨e1, e2⟩ := List.getElem?_zip_eq_some.mp e
  obtain ⟨x', g1, r1⟩ := t1.get e1
  obtain ⟨y', g2, r2⟩ := t2.get e2
  rw [hx] at g1
  rw [hy] at g2
  cases g1
  cases g2
  exact ⟨r1, r2⟩
theorem di_zip {tg s : Expr} {es : List Expr} {m : MA} (hK : X.K = G.K) (hp : ∀ {t : TA}, PA X es t → PI X tg s (iZip X.K t)) (h : DA G W X es m) : DI G W X tg s (mItZ m) := by
  obtain ⟨t, p, sm⟩ := h
  refine ⟨_, hp p, ?_⟩
  rw [hK]
  intro σ ρ H F ad st R Re S h
  refine simA_bind sm Re S h fun xs vs st1 H1 F1 ad1 _ R1 S1 rv h1 => ?_
  match xs, rv, h1 with
  | [], _, h1 => exact h1.elim
  | [.ref _], _, h1 => exact h1.elim
  | [.d x], _, h1 => cases x <;> exact h1.elim
  | [.ref _, _], _, h1 => exact h1.elim
  | [.d x, .ref _], _, h1 => cases x <;> exact h1.elim
  | [.d x, .d y], .cons r (.cons r2 .nil), h1 =>
    cases r with
    | @lst pa ws da q1 t1 => cases r2 with
      | @lst pb us db q2 t2 =>
        exact ⟨pa, pb, ws, us, rfl, SqL.of (S1.sub _ _ q1), SqL.of (S1.sub _ _ q2), fin_same S1 h1 _ (walkR_zip q1 t1 q2 t2)⟩
      | _ => exact h1.elim
    | _ => exact h1.elim
  | .ref _ :: _ :: _ :: _, _, h1 => exact h1.elim
  | .d x :: .ref _ :: _ :: _, _, h1 => cases x <;> exact h1.elim
  | .d x :: .d y :: _ :: _, _, h1 => cases x <;> (try exact h1.elim) <;> cases y <;> exact h1.elim
/-! for -/
open Classical in
noncomputable def forM (gd : Option (Nat × List Va)) (tg : MG) (b : MS) : List Va → MS
  | [], ρ, st => if gOk gd st then .nx ρ st else .bad
  | x :: xs, ρ, st => if gOk gd st then (match tg x ρ with
    | some ρ1 => (match b ρ1 st with
      | .nx ρ2 st2 => forM gd tg b xs ρ2 st2
      | .ct ρ2 st2 => forM gd tg b xs ρ2 st2
      | .bk ρ2 st2 => .nx ρ2 st2
      | o => o)
    | none => .bad) else .bad
noncomputable def mFor (mi : MI) (tg : MG) (b : MS) : MS := fun ρ st => match mi ρ st with
  | .ok it st => forM it.gd tg b it.xs ρ st
  | .er c fs st => .er c fs ρ st
  | .bad => .bad
theorem Ext.pre' {H F H' F' : Hp} {ad ad' ad0 : List Addr} (p : Pre ad0 ad) (e : Ext H F ad H' F' ad') : Pre ad0 ad' := by
  obtain ⟨zs, rfl⟩ := p
  obtain ⟨ys, h⟩ := e.pre
  exact ⟨zs ++ ys, by rw [h, List.append_assoc]⟩
theorem sim_for {vs : List Nat} {wi : TI} {g : TG} {tb : TS} {mi : MI} {mg : MG} {mb : MS} (hi : SimI G W wi mi) (hg : SimG G vs g mg) (hb : SimS G W tb mb) : SimS G W (tFor wi g tb) (mFor mi mg mb) := by
  intro σ ρ H F ad st D Re S h
  refine hi σ ρ H F ad st _ Re S ?_
  unfold mFor at h
  revert h
  generalize mi ρ st = r
  intro h
  cases r with
  | bad => exact h
  | er c fs st1 => exact fun H' F' ad' cls d e S' z => h H' F' ad' σ cls d e S' (Re.ext e) z
  | ok it st1 =>
    intro H1 F1 ad1 e1 S1 J wk
    have h1 : PoS G W H1 F1 ad1 D (forM it.gd mg mb it.xs ρ st1) := PoS.from e1 h
    refine ⟨fun i m σ' H' => ∃ ρ' F' ad' st', Same F1 F' ∧ Pre ad1 ad' ∧ RelE G F' ad' σ' ρ' ∧ SR G H' F' ad' st' ∧ m = it.xs.length - i ∧ i ≤ it.xs.length ∧ PoS G W H' F' ad' D (forM it.gd mg mb (it.xs.drop i) ρ' st'), ⟨_, ρ, F1, ad1, st1, Same.refl _, ⟨[], (List.append_nil _).symm⟩, Re.ext e1, S1, rfl, Nat.zero_le _, h1⟩, ?_⟩
    rintro i m σ' H' ⟨ρ', F', ad', st', s', p', R', S', rfl, hle, hp⟩
    by_cases hlt : i < it.xs.length
    · have hd : it.xs.drop i = it.xs[i] :: it.xs.drop (i + 1) := List.drop_eq_getElem_cons hlt
      rw [hd] at hp
      unfold forM at hp
      split at hp
      · rename_i gk
        refine .inr ⟨wk.goes i H' F' ad' st' s' p' S' gk hlt, fun σ2 H2 => ∃ m', m' < it.xs.length - i ∧ ∃ ρ' F' ad' st', Same F1 F' ∧ Pre ad1 ad' ∧ RelE G F' ad' σ2 ρ' ∧ SR G H2 F' ad' st' ∧ m' = it.xs.length - (i + 1) ∧ i + 1 ≤ it.xs.length ∧ PoS G W H2 F' ad' D (forM it.gd mg mb (it.xs.drop (i + 1)) ρ' st'), fun σ2 H2 z => z, fun v H2 y => ?_⟩
        obtain ⟨F2, x, e2, S2, hx, rx⟩ := wk.yields i H' F' ad' st' v H2 s' p' S' gk hlt y
        rw [List.getElem?_eq_getElem hlt] at hx
        cases hx
        cases z : mg it.xs[i] ρ' with
        | none => rw [z] at hp; exact hp.elim
        | some ρ2 =>
          rw [z] at hp
          refine hg v _ σ' ρ' ρ2 H2 F2 ad' st' _ rx (R'.ext e2) S2 z fun σ3 _ R3 => ?_
          refine hb σ3 ρ2 H2 F2 ad' st' _ R3 S2 ?_
          replace hp : PoS G W H' F' ad' D (match mb ρ2 st' with
            | .nx ρ2 st2 => forM it.gd mg mb (it.xs.drop (i + 1)) ρ2 st2
            | .ct ρ2 st2 => forM it.gd mg mb (it.xs.drop (i + 1)) ρ2 st2
            | .bk ρ2 st2 => .nx ρ2 st2
            | o => o) := hp
          replace hp := PoS.from e2 hp
          have s2 : Same F1 F2 := s'.trans e2.fz
          revert hp
          generalize mb ρ2 st' = o
          intro hp
          cases o with
          | nx ρ3 st3 => exact fun H4 F4 ad4 σ4 e4 S4 R4 => ⟨_, by omega, ρ3, F4, ad4, st3, s2.trans e4.fz, Ext.pre' p' e4, R4, S4, rfl, hlt, PoS.from e4 hp⟩
          | ct ρ3 st3 => exact fun H4 F4 ad4 σ4 e4 S4 R4 => ⟨_, by omega, ρ3, F4, ad4, st3, s2.trans e4.fz, Ext.pre' p' e4, R4, S4, rfl, hlt, PoS.from e4 hp⟩
          | bk ρ3 st3 => exact hp
          | rt v3 st3 => exact hp
          | er c3 fs3 ρ3 st3 => exact hp
          | bad => exact hp
      · exact hp.elim
    · have e : i = it.xs.length := by omega
      subst e
      rw [List.drop_length] at hp
      unfold forM at hp
      split at hp
      · rename_i gk
        exact .inl ⟨wk.stops H' F' ad' st' s' p' S' gk, hp H' F' ad' σ' Ext.refl S' R'⟩
      · exact hp.elim
theorem ds_for {vs : List Nat} {tg iter : Expr} {body : List Stmt} {pos : Pos} {mi : MI} {mg : MG} {mb : MS} (hp : PassesOwn (model X.prog X.w) X.A X.env X.xe) (hc : X.calm = true) (hi : DI G W X tg iter mi) (hg : DG G X vs tg mg) (hb : DSs G W X body mb)
    (hs : ∀ x, foldedSetIterable iter X.env x = pure x := by intro _; rfl) : DS G W X (.For tg iter body [] pos) (mFor mi mg mb) := by
  obtain ⟨wi, pi, si⟩ := hi
  obtain ⟨g, pg, sg⟩ := hg
  obtain ⟨tb, pb, sb⟩ := hb
  exact ⟨_, ps_for hp hc pi pg pb hs, sim_for si sg sb⟩
/-! while -/
def whileF (c : MT) (b : MS) : Nat → MS
  | 0, _, _ => .bad
  | n + 1, ρ, st => outT (c ρ st) ρ fun x st => if x then (match b ρ st with
    | .nx ρ st => whileF c b n ρ st
    | .ct ρ st => whileF c b n ρ st
    | .bk ρ st => .nx ρ st
    | o => o) else .nx ρ st
theorem whileF_succ {c : MT} {b : MS} : ∀ {n : Nat} {ρ : Ev} {st : Sto}, whileF c b n ρ st ≠ .bad → whileF c b (n + 1) ρ st = whileF c b n ρ st
  | 0, _, _, h => absurd rfl h
  | n + 1, ρ, st, h => by
    rw [whileF] at h
    rw [whileF.eq_2 c b ρ st (n + 1), whileF.eq_2 c b ρ st n]
    revert h
    generalize c ρ st = r
    intro h
    cases r with
    | bad => rfl
    | er c fs st1 => rfl
    | ok x st1 =>
      cases x with
      | false => rfl
      | true =>
        simp only [outT, if_true] at h ⊢
        revert h
        generalize b ρ st1 = o
        intro h
        cases o with
        | nx ρ2 st2 => exact whileF_succ h
        | ct ρ2 st2 => exact whileF_succ h
        | _ => rfl
theorem whileF_le {c : MT} {b : MS} {n : Nat} {ρ : Ev} {st : Sto} (h : whileF c b n ρ st ≠ .bad) : ∀ k, whileF c b (n + k) ρ st = whileF c b n ρ st
  | 0 => rfl
  | k + 1 => by
    have e := whileF_le h k
    rw [← Nat.add_assoc, whileF_succ (by rw [e]; exact h), e]
open Classical in
noncomputable def mWhile (c : MT) (b : MS) : MS := fun ρ st => if h : ∃ n, whileF c b n ρ st ≠ .bad then whileF c b (Classical.choose h) ρ st else .bad
theorem mWhile_eq {c : MT} {b : MS} {n : Nat} {ρ : Ev} {st : Sto} (h : whileF c b n ρ st ≠ .bad) : mWhile c b ρ st = whileF c b n ρ st := by
  unfold mWhile
  rw [dif_pos ⟨n, h⟩]
  have h2 := Classical.choose_spec (⟨n, h⟩ : ∃ n, whileF c b n ρ st ≠ .bad)
  generalize Classical.choose (⟨n, h⟩ : ∃ n, whileF c b n ρ st ≠ .bad) = k at h2
  rw [← whileF_le h2 n, ← whileF_le h k, Nat.add_comm]
theorem mWhile_none {c : MT} {b : MS} {ρ : Ev} {st : Sto} (h : mWhile c b ρ st ≠ .bad) : ∃ n, mWhile c b ρ st = whileF c b n ρ st := by
  by_cases e : ∃ n, whileF c b n ρ st ≠ .bad
  · obtain ⟨n, e⟩ := e
    exact ⟨n, mWhile_eq e⟩
  · exact absurd (by unfold mWhile; rw [dif_neg e]) h
/-- one turn -/
theorem mWhile_step (c : MT) (b : MS) (ρ : Ev) (st : Sto) : mWhile c b ρ st = outT (c ρ st) ρ fun x st => if x then (match b ρ st with
    | .nx ρ st => mWhile c b ρ st
    | .ct ρ st => mWhile c b ρ st
    | .bk ρ st => .nx ρ st
    | o => o) else .nx ρ st := by
  have one : ∀ n, whileF c b (n + 1) ρ st = outT (c ρ st) ρ fun x st => if x then (match b ρ st with
    | .nx ρ st => whileF c b n ρ st
    | .ct ρ st => whileF c b n ρ st
    | .bk ρ st => .nx ρ st
    | o => o) else .nx ρ st := fun n => by rw [whileF]
  by_cases e : ∃ n, whileF c b n ρ st ≠ .bad
  · obtain ⟨n, e⟩ := e
    rw [mWhile_eq e]
    cases n with
    | zero => exact absurd rfl e
    | succ n =>
      rw [one n] at e ⊢
      revert e
      generalize c ρ st = r
      intro e
      cases r with
      | bad => rfl
      | er c fs st1 => rfl
      | ok x st1 =>
        cases x with
        | false => rfl
        | true =>
          simp only [outT, if_true] at e ⊢
          revert e
          generalize b ρ st1 = o
          intro e
          cases o with
          | nx ρ2 st2 => exact (mWhile_eq e).symm
          | ct ρ2 st2 => exact (mWhile_eq e).symm
          | _ => rfl
  · have hb : ∀ n, whileF c b n ρ st = .bad := fun n => Classical.byContradiction fun z => e ⟨n, z⟩
    have hm : mWhile c b ρ st = .bad := by unfold mWhile; rw [dif_neg e]
    rw [hm]
    have h2 : ∀ n, (outT (c ρ st) ρ fun x st => if x then (match b ρ st with
      | .nx ρ st => whileF c b n ρ st
      | .ct ρ st => whileF c b n ρ st
      | .bk ρ st => .nx ρ st
      | o => o) else .nx ρ st) = .bad := fun n => by rw [← one n]; exact hb (n + 1)
    revert h2
    generalize c ρ st = r
    intro h2
    cases r with
    | bad => rfl
    | er c fs st1 => exact (h2 0).symm
    | ok x st1 =>
      cases x with
      | false => exact (h2 0).symm
      | true =>
        simp only [outT, if_true] at h2 ⊢
        revert h2
        generalize b ρ st1 = o
        intro h2
        have go : ∀ ρ2 st2, (∀ n, whileF c b n ρ2 st2 = .bad) → mWhile c b ρ2 st2 = .bad := fun ρ2 st2 z => by
          unfold mWhile
          rw [dif_neg fun ⟨n, hn⟩ => hn (z n)]
        cases o with
        | nx ρ2 st2 => exact (go ρ2 st2 h2).symm
        | ct ρ2 st2 => exact (go ρ2 st2 h2).symm
        | _ => exact (h2 0).symm
theorem sim_while {tc : TT} {tb : TS} {mc : MT} {mb : MS} (hc : SimT G W tc mc) (hb : SimS G W tb mb) : SimS G W (tWhile tc tb) (mWhile mc mb) := by
  intro σ ρ H F ad st D Re S h
  by_cases e0 : mWhile mc mb ρ st = .bad
  · rw [e0] at h
    exact h.elim
  obtain ⟨n, en⟩ := mWhile_none e0
  rw [en] at h
  refine ⟨fun m σ' H' => ∃ ρ' F' ad' st', RelE G F' ad' σ' ρ' ∧ SR G H' F' ad' st' ∧ PoS G W H' F' ad' D (whileF mc mb m ρ' st'), ⟨n, ρ, F, ad, st, Re, S, h⟩, ?_⟩
  rintro m σ' H' ⟨ρ', F', ad', st', R', S', hp⟩
  cases m with
  | zero => exact hp.elim
  | succ m =>
    rw [whileF] at hp
    refine simT_out hc R' S' hp fun x st1 H1 F1 ad1 _ R1 S1 h1 => ?_
    cases x with
    | false => rw [if_neg Bool.false_ne_true] at h1 ⊢; exact h1 H1 F1 ad1 σ' Ext.refl S1 R1
    | true =>
      rw [if_pos rfl] at h1 ⊢
      refine ⟨fun σ2 H2 => ∃ m', m' < m + 1 ∧ ∃ ρ' F' ad' st', RelE G F' ad' σ2 ρ' ∧ SR G H2 F' ad' st' ∧ PoS G W H2 F' ad' D (whileF mc mb m' ρ' st'), fun σ2 H2 z => z, ?_⟩
      refine hb σ' ρ' H1 F1 ad1 st1 _ R1 S1 ?_
      revert h1
      generalize mb ρ' st1 = o
      intro h1
      cases o with
      | nx ρ3 st3 => exact fun H4 F4 ad4 σ4 e4 S4 R4 => ⟨m, by omega, ρ3, F4, ad4, st3, R4, S4, PoS.from e4 h1⟩
      | ct ρ3 st3 => exact fun H4 F4 ad4 σ4 e4 S4 R4 => ⟨m, by omega, ρ3, F4, ad4, st3, R4, S4, PoS.from e4 h1⟩
      | bk ρ3 st3 => exact h1
      | rt v3 st3 => exact h1
      | er c3 fs3 ρ3 st3 => exact h1
      | bad => exact h1
theorem ds_while {c : Expr} {body : List Stmt} {pos : Pos} {mc : MT} {mb : MS} (hp : PassesOwn (model X.prog X.w) X.A X.env X.xe) (hc : DT G W X c mc) (hb : DSs G W X body mb) : DS G W X (.While c body [] pos) (mWhile mc mb) := by
  obtain ⟨tc, pc, sc⟩ := hc
  obtain ⟨tb, pb, sb⟩ := hb
  exact ⟨_, ps_while hp pc pb, sim_while sc sb⟩
end

/-! ### comprehensions -/
section
variable {G : Ga} {W : L2.WX} {X : Cx}
theorem uniE {ι : Type} {Y : ι → Cx} {e : Expr} {m : ME} (h : ∀ i, DE G W (Y i) e m) : ∃ t, (∀ i, PE (Y i) e t) ∧ SimE G W t m := by
  refine ⟨fun σ H Q => ∀ i, ∃ t, PE (Y i) e t ∧ t σ H Q, fun i => ⟨fun pins s σ H Q I z => ?_⟩, fun σ ρ H F ad st Q R S z i => ?_⟩
  · obtain ⟨t, p, z⟩ := z i
    exact p.run pins s σ H Q I z
  · obtain ⟨t, p, s⟩ := h i
    exact ⟨t, p, s σ ρ H F ad st Q R S z⟩
def DTs (G : Ga) (W : L2.WX) (X : Cx) (es : List Expr) (m : MT) : Prop := ∃ t, PTs X es t ∧ SimT G W t m
def mYes : MT := fun _ st => .ok true st
theorem dts_nil : DTs G W X [] mYes := ⟨_, pts_nil, fun σ ρ H F ad st Q R S h => fin_same S h⟩
theorem dts_one {c : Expr} {m : MT} (h : DT G W X c m) : DTs G W X [c] m := by
  obtain ⟨t, p, s⟩ := h
  exact ⟨t, pts_one p, s⟩
theorem uniT {ι : Type} {Y : ι → Cx} {e : List Expr} {m : MT} (h : ∀ i, DTs G W (Y i) e m) : ∃ t, (∀ i, PTs (Y i) e t) ∧ SimT G W t m := by
  refine ⟨fun σ H Q => ∀ i, ∃ t, PTs (Y i) e t ∧ t σ H Q, fun i => ⟨fun pins s σ H Q I z => ?_⟩, fun σ ρ H F ad st Q R S z i => ?_⟩
  · obtain ⟨t, p, z⟩ := z i
    exact p.run pins s σ H Q I z
  · obtain ⟨t, p, s⟩ := h i
    exact ⟨t, p, s σ ρ H F ad st Q R S z⟩
theorem uniSs {ι : Type} {Y : ι → Cx} {e : List Stmt} {m : MS} (h : ∀ i, DSs G W (Y i) e m) : ∃ t, (∀ i, PSs (Y i) e t) ∧ SimS G W t m := by
  refine ⟨fun D σ H => ∀ i, ∃ t, PSs (Y i) e t ∧ t D σ H, fun i => ⟨fun pins s σ H D I z => ?_⟩, fun σ ρ H F ad st D R S z i => ?_⟩
  · obtain ⟨t, p, z⟩ := z i
    exact p.run pins s σ H D I z
  · obtain ⟨t, p, s⟩ := h i
    exact ⟨t, p, s σ ρ H F ad st D R S z⟩
theorem uniG {ι : Type} {Y : ι → Cx} {vs : List Nat} {e : Expr} {m : MG} (h : ∀ i, DG G (Y i) vs e m) : ∃ t, (∀ i, PG (Y i) e t) ∧ SimG G vs t m := by
  refine ⟨fun v σ H Q => ∀ i, ∃ t, PG (Y i) e t ∧ t v σ H Q, fun i => ⟨fun pins s σ H v u Q I r z => ?_⟩, fun v x σ ρ ρ' H F ad st Q r R S z q i => ?_⟩
  · obtain ⟨t, p, z⟩ := z i
    exact p.run pins s σ H v u Q I r z
  · obtain ⟨t, p, s⟩ := h i
    exact ⟨t, p, s v x σ ρ ρ' H F ad st Q r R S z q⟩
def wipeE (ρ : Ev) : List Nat → Ev
  | [] => ρ
  | i :: is => wipeE (ρ.set i none) is
theorem wipeE_len : ∀ {is : List Nat} {ρ : Ev}, (wipeE ρ is).length = ρ.length
  | [], _ => rfl
  | i :: is, ρ => by
    show (wipeE (ρ.set i none) is).length = _
    rw [wipeE_len, List.length_set]
theorem wipeE_some {i : Nat} {d : Va} : ∀ {is : List Nat} {ρ : Ev}, (wipeE ρ is)[i]? = some (some d) → ρ[i]? = some (some d) ∧ i ∉ is
  | [], _, h => ⟨h, by simp⟩
  | j :: is, ρ, h => by
    obtain ⟨h1, h2⟩ := wipeE_some (is := is) (ρ := ρ.set j none) h
    by_cases e : j = i
    · subst e
      have hl : j < ρ.length := by
        have := (List.getElem?_eq_some_iff.mp h1).1
        rw [List.length_set] at this
        exact this
      rw [List.getElem?_set_self hl] at h1
      cases h1
    · rw [List.getElem?_set_ne e] at h1
      exact ⟨h1, by simp [h2]; exact fun z => e z.symm⟩
theorem stb_wipe (hs : G.Stb) {F : Hp} {ad : List Addr} : ∀ {vs : List Nat} {σ : L2.St}, G.jv F ad σ → G.jv F ad (wipe σ vs)
  | [], σ, h => h
  | i :: vs, σ, h => by
    first
      | exact stb_wipe hs (vs := vs) (hs _ _ _ i none h)
      | (unfold wipe; exact stb_wipe hs (vs := vs) (hs _ _ _ i none h))
      | (unfold wipe; exact hs _ _ _ i none (stb_wipe hs (vs := vs) h))
theorem RelE.wipe {F : Hp} {ad : List Addr} {σ : L2.St} {ρ : Ev} {vs : List Nat} (hs : G.Stb) (R : RelE G F ad σ ρ) : RelE G F ad (L2.wipe σ vs) (wipeE ρ vs) := by
  refine ⟨by rw [wipe_length, wipeE_len, R.len], fun i d e => ?_, stb_wipe hs R.j⟩
  obtain ⟨h1, h2⟩ := wipeE_some e
  obtain ⟨v, h3, h4⟩ := R.at_ i d h1
  exact ⟨v, by rw [wipe_out h2]; exact h3, h4⟩
theorem wipe_in {i : Nat} : ∀ {vs : List Nat} {σ : L2.St}, i ∈ vs → i < σ.length → (wipe σ vs)[i]? = some none
  | [], _, h, _ => by simp at h
  | j :: vs, σ, h, hl => by
    have key : (wipe σ (j :: vs))[i]? = (wipe (σ.set j none) vs)[i]? ∨ (wipe σ (j :: vs))[i]? = ((wipe σ vs).set j none)[i]? := by
      first
        | exact .inl rfl
        | exact .inr rfl
        | (unfold wipe; exact .inl rfl)
        | (unfold wipe; exact .inr rfl)
    by_cases hi : i ∈ vs
    · rcases key with k | k
      · rw [k]; exact wipe_in hi (by rw [List.length_set]; exact hl)
      · rw [k]
        by_cases e : j = i
        · subst e; rw [List.getElem?_set_self (by rw [wipe_length]; exact hl)]
        · rw [List.getElem?_set_ne e]; exact wipe_in hi hl
    · have e : i = j := by
        rcases List.mem_cons.mp h with e | e
        · exact e
        · exact absurd e hi
      subst e
      rcases key with k | k
      · rw [k, wipe_out hi, List.getElem?_set_self hl]
      · rw [k, List.getElem?_set_self (by rw [wipe_length]; exact hl)]
theorem wipe_agree {vs : List Nat} {σ σ2 : L2.St} (h : Agree vs (wipe σ vs) σ2) : wipe σ2 vs = wipe σ vs := by
  apply List.ext_getElem?
  intro i
  have hl : σ2.length = σ.length := by rw [h.1, wipe_length]
  by_cases hi : i ∈ vs
  · by_cases hn : i < σ.length
    · rw [wipe_in hi (by rw [hl]; exact hn), wipe_in hi hn]
    · rw [List.getElem?_eq_none (by rw [wipe_length]; omega), List.getElem?_eq_none (by rw [wipe_length]; omega)]
  · rw [wipe_out hi, h.2 i hi]
open Classical in
noncomputable def compM (gd : Option (Nat × List Va)) (tg : MG) (tt : MT) (te : ME) (ρ0 : Ev) : List Va → Sto → Res (List Va)
  | [], st => if gOk gd st then .ok [] st else .bad
  | x :: xs, st => if gOk gd st then (match tg x ρ0 with
    | some ρ => (noEr (tt ρ st)).bind fun b st => if b then (noEr (te ρ st)).bind fun y st => (compM gd tg tt te ρ0 xs st).bind fun ys st => .ok (y :: ys) st else compM gd tg tt te ρ0 xs st
    | none => .bad) else .bad
theorem Res.bind_assoc {α β γ : Type} (r : Res α) (f : α → Sto → Res β) (g : β → Sto → Res γ) : (r.bind f).bind g = r.bind fun a st => (f a st).bind g := by cases r <;> rfl
/-- an object that we do not know of may change -/
theorem SR.other {H F : Hp} {ad : List Addr} {st : Sto} {p : Addr} {o : HO} (S : SR G H F ad st) (hp : p ∉ ad) (hf : F p = none) : SR G (upd H p o) F ad st := by
  refine ⟨fun b u h => ?_, S.len, S.nd, S.dis, fun n a m h hm => ?_⟩
  · rw [upd_ne (ne_of_none h hf)]
    exact S.sub b u h
  · have ne : a ≠ p := fun e => hp (by rw [← e]; exact List.mem_of_getElem? h)
    have hz := S.ob n a m h hm
    cases m with
    | lst ds => obtain ⟨vs, z, r⟩ := hz; exact ⟨vs, by rw [upd_ne ne]; exact z, r⟩
    | obj c fs => obtain ⟨hc, dx, vfs, z, r⟩ := hz; exact ⟨hc, dx, vfs, by rw [upd_ne ne]; exact z, r⟩
    | dct kvs => exact hz.elim
theorem Ext.other {H0 F0 H F : Hp} {ad0 ad : List Addr} {p : Addr} {o : HO} (e : Ext H0 F0 ad0 H F ad) (h0 : H0 p = none) : Ext H0 F0 ad0 (upd H p o) F ad := by
  refine ⟨e.pre, e.fz, fun b u hb h => ?_, fun b h => ?_, e.nw, e.na⟩
  · rw [upd_ne (ne_of_none h h0)]
    exact e.kp b u hb h
  · by_cases q : b = p
    · rw [q]; exact h0
    · rw [upd_ne q] at h; exact e.dm b h
theorem lc_run {J : It} {g : TG} {tt : TT} {te : TE} {vs : List Nat} {σ : L2.St} {ρ : Ev} {H1 F1 : Hp} {ad1 : List Addr} {st1 : Sto} {it : Its} {mg : MG} {mt : MT} {me : ME} {β : Type} {Wv : Value → Option Addr → Hp → Prop} {P : β → Sto → Hp → Hp → List Addr → Prop} {k : List Va → Sto → Res β} {L : Addr} {Q : Hp → Prop}
    (hs : G.Stb) (wk : WalkR G J F1 ad1 it) (hg : SimG G vs g mg) (ht : SimT G (fun _ _ _ _ => False) tt mt) (he : SimE G (fun _ _ _ _ => False) te me) (Re : RelE G F1 ad1 σ ρ) (S1 : SR G H1 F1 ad1 st1) (hL : H1 L = none) (hcap : it.xs.length ≤ cap)
    (h : Po G Wv H1 F1 ad1 P ((compM it.gd mg mt me (wipeE ρ vs) it.xs st1).bind k))
    (fin : ∀ H F ad st ys ws, Ext H1 F1 ad1 H F ad → SR G H F ad st → L ∉ ad → F L = none → H L = some (.lst ws) → RepVs G F ad ws ys → ys.length ≤ cap → Po G Wv H1 F1 ad1 P (k ys st) → Q H) :
    ∃ W : Nat → Nat → Hp → Prop, (∃ m, W 0 m (upd H1 L (.lst []))) ∧ ∀ i m H, W i m H →
      (J.stop i H ∧ Q H) ∨ (J.go i H ∧ ∃ Nx : Hp → Prop, (∀ H', Nx H' → ∃ m', m' < m ∧ W (i + 1) m' H') ∧ ∀ x H', J.yld i H x H' → g x (wipe σ vs) H' fun σ2 H2 => wipe σ2 vs = wipe σ vs ∧ tt σ2 H2 fun b H3 =>
        if b = true then te σ2 H3 fun y H4 => ∃ acc, H4 L = some (.lst acc) ∧ acc.length < sizeLine ∧ Nx (upd H4 L (.lst (acc ++ [y]))) else Nx H3) := by
  have fL : F1 L = none := S1.sub.free hL
  have aL : L ∉ ad1 := fun z => by
    obtain ⟨u, hu⟩ := S1.there z
    rw [hL] at hu
    cases hu
  let Wt : Nat → Hp → Prop := fun i H => ∃ F ad st ys ws, i ≤ it.xs.length ∧ Ext H1 F1 ad1 H F ad ∧ SR G H F ad st ∧ L ∉ ad ∧ F L = none ∧ H L = some (.lst ws) ∧ RepVs G F ad ws ys ∧ ys.length ≤ i ∧
    Po G Wv H1 F1 ad1 P ((compM it.gd mg mt me (wipeE ρ vs) (it.xs.drop i) st).bind fun zs st' => k (ys ++ zs) st')
  refine ⟨fun i m H => m = it.xs.length - i ∧ Wt i H, ⟨_, rfl, F1, ad1, st1, [], [], Nat.zero_le _, Ext.refl.other hL, S1.other aL fL, aL, fL, upd_same, .nil, Nat.le_refl _, h⟩, ?_⟩
  rintro i m H ⟨rfl, F, ad, st, ys, ws, hle, E, S, na, nf, hl, rw, hy, hp⟩
  have pre : Pre ad1 ad := E.pre
  by_cases hlt : i < it.xs.length
  · have hd : it.xs.drop i = it.xs[i] :: it.xs.drop (i + 1) := List.drop_eq_getElem_cons hlt
    rw [hd] at hp
    unfold compM at hp
    split at hp
    · rename_i gk
      refine .inr ⟨wk.goes i H F ad st E.fz pre S gk hlt, fun H' => ∃ m', m' < it.xs.length - i ∧ m' = it.xs.length - (i + 1) ∧ Wt (i + 1) H', fun H' z => z, fun v H' y => ?_⟩
      obtain ⟨F2, x, e2, S2, hx, rx⟩ := wk.yields i H F ad st v H' E.fz pre S gk hlt y
      rw [List.getElem?_eq_getElem hlt] at hx
      cases hx
      have keepL : ∀ {Ha Fa Hb Fb : Hp} {ada adb : List Addr} {zs : List V}, Ext Ha Fa ada Hb Fb adb → L ∉ ada → Fa L = none → Ha L = some (.lst zs) → L ∉ adb ∧ Fb L = none ∧ Hb L = some (.lst zs) := fun {Ha Fa Hb Fb ada adb zs} e n f hh => by
        refine ⟨fun z => ?_, ?_, e.kp _ _ n hh⟩
        · rcases e.na _ z with z | z
          · exact n z
          · rw [hh] at z; cases z
        · cases q : Fb L with
          | none => rfl
          | some o =>
            rcases e.nw _ _ q with z | z
            · rw [f] at z; cases z
            · rw [hh] at z; cases z
      obtain ⟨na2, nf2, hl2⟩ := keepL e2 na nf hl
      cases z : mg it.xs[i] (wipeE ρ vs) with
      | none => rw [z] at hp; exact hp.elim
      | some ρ2 =>
        rw [z] at hp
        have Rw : RelE G F2 ad (wipe σ vs) (wipeE ρ vs) := ((Re.ext E).wipe hs).ext e2
        refine hg v _ (wipe σ vs) (wipeE ρ vs) ρ2 H' F2 ad st _ rx Rw S2 z fun σ3 ag R3 => ⟨wipe_agree ag, ?_⟩
        refine ht σ3 ρ2 H' F2 ad st _ R3 S2 ?_
        replace hp : Po G Wv H1 F1 ad1 P (((noEr (mt ρ2 st)).bind fun b st => if b then (noEr (me ρ2 st)).bind fun y st => (compM it.gd mg mt me (wipeE ρ vs) (it.xs.drop (i + 1)) st).bind fun ys st => .ok (y :: ys) st else compM it.gd mg mt me (wipeE ρ vs) (it.xs.drop (i + 1)) st).bind fun zs st' => k (ys ++ zs) st') := hp
        revert hp
        generalize mt ρ2 st = rt
        intro hp
        cases rt with
        | bad => exact hp.elim
        | er c fs st' => exact hp.elim
        | ok b st2 =>
          intro H3 F3 ad3 e3 S3
          obtain ⟨na3, nf3, hl3⟩ := keepL e3 na2 nf2 hl2
          have rw3 : RepVs G F3 ad3 ws ys := RepVs.ext e3 (RepVs.ext e2 rw)
          have E3 := (E.trans e2).trans e3
          cases b with
          | false =>
            rw [if_neg Bool.false_ne_true]
            exact ⟨_, by omega, rfl, F3, ad3, st2, ys, ws, hlt, E3, S3, na3, nf3, hl3, rw3, by omega, hp⟩
          | true =>
            rw [if_pos rfl]
            refine he σ3 ρ2 H3 F3 ad3 st2 _ (R3.ext e3) S3 ?_
            replace hp : Po G Wv H1 F1 ad1 P (((noEr (me ρ2 st2)).bind fun y st => (compM it.gd mg mt me (wipeE ρ vs) (it.xs.drop (i + 1)) st).bind fun ys st => .ok (y :: ys) st).bind fun zs st' => k (ys ++ zs) st') := hp
            revert hp
            generalize me ρ2 st2 = ry
            intro hp
            cases ry with
            | bad => exact hp.elim
            | er c fs st' => exact hp.elim
            | ok y st3 =>
              intro H4 F4 ad4 e4 S4 w rw4
              obtain ⟨na4, nf4, hl4⟩ := keepL e4 na3 nf3 hl3
              refine ⟨ws, hl4, by rw [Paired.length rw3]; exact Nat.lt_of_le_of_lt hy (Nat.lt_of_lt_of_le hlt (Nat.le_trans hcap (by decide))), _, by omega, rfl, F4, ad4, st3, ys ++ [y], ws ++ [w], hlt, (E3.trans e4).other hL, S4.other na4 nf4, na4, nf4, upd_same, Paired.append (RepVs.ext e4 rw3) (.cons rw4 .nil), by rw [List.length_append]; simp; exact hy, ?_⟩
              replace hp : Po G Wv H1 F1 ad1 P (((compM it.gd mg mt me (wipeE ρ vs) (it.xs.drop (i + 1)) st3).bind fun ys st => .ok (y :: ys) st).bind fun zs st' => k (ys ++ zs) st') := hp
              rw [Res.bind_assoc] at hp
              have e : (fun (a : List Va) (st : Sto) => (Res.ok (y :: a) st).bind fun zs st' => k (ys ++ zs) st') = fun zs st' => k ((ys ++ [y]) ++ zs) st' := by
                funext a st'
                show k (ys ++ (y :: a)) st' = _
                rw [List.append_assoc]
                rfl
              rw [e] at hp
              exact hp
    · exact hp.elim
  · have e : i = it.xs.length := by omega
    subst e
    rw [List.drop_length] at hp
    unfold compM at hp
    split at hp
    · rename_i gk
      refine .inl ⟨wk.stops H F ad st E.fz pre S gk, fin H F ad st ys ws E S na nf hl rw (Nat.le_trans hy hcap) ?_⟩
      replace hp : Po G Wv H1 F1 ad1 P (k (ys ++ []) st) := hp
      rw [List.append_nil] at hp
      exact hp
    · exact hp.elim
noncomputable def mLcG (own : List Nat) (mi : MI) (tg : MG) (tt : MT) (te : ME) : MA := fun ρ st => (mi ρ st).bind fun it st => if it.xs.length ≤ cap then compM it.gd tg tt te (wipeE ρ own) it.xs st else .bad
noncomputable def mLc (own : List Nat) (mi : MI) (tg : MG) (tt : MT) (te : ME) : ME := fun ρ st => (mLcG own mi tg tt te ρ st).bind fun ys st => match ds? ys with
  | some ds => .ok (.d (.lst ds)) st
  | none => .bad
noncomputable def mLcC (own : List Nat) (mi : MI) (tg : MG) (tt : MT) (te : ME) : ME := fun ρ st => (mLcG own mi tg tt te ρ st).bind fun ys st => .ok (.ref st.length) (st ++ [.lst ys])
theorem simI_bind {tt : TI} {mt : MI} {β : Type} {P : β → Sto → Hp → Hp → List Addr → Prop} (ht : SimI G W tt mt) {k : Its → Sto → Res β} {σ : L2.St} {ρ : Ev} {H F : Hp} {ad : List Addr} {st : Sto} {Q : It → Hp → Prop} (R : RelE G F ad σ ρ) (S : SR G H F ad st)
    (h : Po G (fun c d H' => W c d σ H') H F ad P ((mt ρ st).bind k)) (q : ∀ x J st1 H1 F1 ad1, RelE G F1 ad1 σ ρ → SR G H1 F1 ad1 st1 → WalkR G J F1 ad1 x → Po G (fun c d H' => W c d σ H') H1 F1 ad1 P (k x st1) → Q J H1) : tt σ H Q := by
  refine ht σ ρ H F ad st _ R S ?_
  have h1 := Po.bind h
  revert h1
  generalize mt ρ st = ra
  intro h1
  cases ra with
  | bad => exact h1
  | er c fs st1 => exact h1
  | ok x st1 => exact fun H1 F1 ad1 e1 S1 J wk => q x J st1 H1 F1 ad1 (R.ext e1) S1 wk (h1 H1 F1 ad1 e1 S1)
theorem sim_lc {vs : List Nat} {wi : TI} {g : TG} {tt : TT} {te : TE} {mi : MI} {mg : MG} {mt : MT} {me : ME} (hs : G.Stb) (hi : SimI G W wi mi) (hg : SimG G vs g mg) (ht : SimT G (fun _ _ _ _ => False) tt mt) (he : SimE G (fun _ _ _ _ => False) te me) : SimE G W (tLc wi g tt te vs) (mLc vs mi mg mt me) := by
  intro σ ρ H F ad st Q Re S h
  unfold mLc mLcG at h
  rw [Res.bind_assoc] at h
  refine simI_bind hi Re S h fun it J st1 H1 F1 ad1 R1 S1 wk h1 => ?_
  intro L hL
  replace h1 : Po G _ H1 F1 ad1 (QV G Q) ((if it.xs.length ≤ cap then compM it.gd mg mt me (wipeE ρ vs) it.xs st1 else .bad).bind fun ys st => match ds? ys with
    | some ds => .ok (.d (.lst ds)) st
    | none => .bad) := h1
  split at h1
  · rename_i hc
    refine lc_run hs wk hg ht he R1 S1 hL hc h1 fun H2 F2 ad2 st2 ys ws E2 S2 na nf hl rw _ h2 => ?_
    cases z : ds? ys with
    | none => rw [z] at h2; exact h2.elim
    | some ds =>
      rw [z] at h2
      have sf : Same F2 (upd F2 L (.lst ws)) := fun b o hb => by rw [upd_ne (ne_of_none hb nf)]; exact hb
      have S3 : SR G H2 (upd F2 L (.lst ws)) ad2 st2 := by
        refine ⟨fun b o hb => ?_, S2.len, S2.nd, fun a ha => ?_, fun n a m ha hm => ?_⟩
        · by_cases e : b = L
          · rw [e, upd_same] at hb
            rw [e, hl]; exact hb
          · rw [upd_ne e] at hb; exact S2.sub b o hb
        · rw [upd_ne (fun e => na (by rw [← e]; exact ha))]
          exact S2.dis a ha
        · have hz := S2.ob n a m ha hm
          cases m with
          | lst ds => obtain ⟨vs, z, r⟩ := hz; exact ⟨vs, z, Paired.mono (fun v x hx => by cases x with | d x => exact Rep.same sf hx | ref n => exact hx) r⟩
          | obj c fs => obtain ⟨hc, dx, vfs, z, r⟩ := hz; exact ⟨hc, dx, vfs, z, Paired.mono (fun v x hx => ⟨hx.1, by obtain ⟨f, x⟩ := x; cases x with | d x => exact Rep.same sf hx.2 | ref n => exact hx.2⟩) r⟩
          | dct kvs => exact hz.elim
      have E3 : Ext H1 F1 ad1 H2 (upd F2 L (.lst ws)) ad2 := by
        refine ⟨E2.pre, E2.fz.trans sf, E2.kp, E2.dm, fun b o hb => ?_, E2.na⟩
        by_cases e : b = L
        · rw [e]; exact .inr hL
        · rw [upd_ne e] at hb; exact E2.nw b o hb
      exact h2 _ _ _ E3 S3 _ (.lst upd_same ((repVs_ds rw z).same sf))
  · exact h1.elim
theorem sim_lcC {vs : List Nat} {wi : TI} {g : TG} {tt : TT} {te : TE} {mi : MI} {mg : MG} {mt : MT} {me : ME} (hs : G.Stb) (hi : SimI G W wi mi) (hg : SimG G vs g mg) (ht : SimT G (fun _ _ _ _ => False) tt mt) (he : SimE G (fun _ _ _ _ => False) te me) : SimE G W (tLc wi g tt te vs) (mLcC vs mi mg mt me) := by
  intro σ ρ H F ad st Q Re S h
  unfold mLcC mLcG at h
  rw [Res.bind_assoc] at h
  refine simI_bind hi Re S h fun it J st1 H1 F1 ad1 R1 S1 wk h1 => ?_
  intro L hL
  replace h1 : Po G _ H1 F1 ad1 (QV G Q) ((if it.xs.length ≤ cap then compM it.gd mg mt me (wipeE ρ vs) it.xs st1 else .bad).bind fun ys st => .ok (.ref st.length) (st ++ [.lst ys])) := h1
  split at h1
  · rename_i hc
    refine lc_run hs wk hg ht he R1 S1 hL hc h1 fun H2 F2 ad2 st2 ys ws E2 S2 na nf hl rw _ h2 => ?_
    have E3 : Ext H1 F1 ad1 H2 F2 (ad2 ++ [L]) := by
      obtain ⟨zs, ez⟩ := E2.pre
      refine ⟨⟨zs ++ [L], by rw [ez, List.append_assoc]⟩, E2.fz, E2.kp, E2.dm, E2.nw, fun b hb => ?_⟩
      rcases List.mem_append.mp hb with hb | hb
      · exact E2.na b hb
      · have : b = L := by simpa using hb
        rw [this]; exact .inr hL
    have up : ∀ {v : V} {x : Va}, RepV G F2 ad2 v x → RepV G F2 (ad2 ++ [L]) v x := fun {v x} hx => by
      cases x with
      | d x => exact hx
      | ref n =>
        obtain ⟨a, h1, h2⟩ := hx
        exact ⟨a, by rw [List.getElem?_append_left (List.getElem?_eq_some_iff.mp h1).1]; exact h1, h2⟩
    have S3 : SR G H2 F2 (ad2 ++ [L]) (st2 ++ [.lst ys]) := by
      refine ⟨S2.sub, by rw [List.length_append, List.length_append, S2.len]; rfl, ?_, fun a ha => ?_, fun n a m ha hm => ?_⟩
      · rw [List.nodup_append]
        refine ⟨S2.nd, by simp, fun a ha b hb => ?_⟩
        have : b = L := by simpa using hb
        rw [this]
        exact fun e => na (by rw [← e]; exact ha)
      · rcases List.mem_append.mp ha with ha | ha
        · exact S2.dis a ha
        · have : a = L := by simpa using ha
          rw [this]; exact nf
      · by_cases hn : n < ad2.length
        · rw [List.getElem?_append_left hn] at ha
          rw [List.getElem?_append_left (by rw [← S2.len]; exact hn)] at hm
          have hz := S2.ob n a m ha hm
          cases m with
          | lst ds => obtain ⟨vs, z, r⟩ := hz; exact ⟨vs, z, Paired.mono (fun v x hx => up hx) r⟩
          | obj c fs => obtain ⟨hc, dx, vfs, z, r⟩ := hz; exact ⟨hc, dx, vfs, z, Paired.mono (fun v x hx => ⟨hx.1, up hx.2⟩) r⟩
          | dct kvs => exact hz.elim
        · have hl' : n < (ad2 ++ [L]).length := (List.getElem?_eq_some_iff.mp ha).1
          have e : n = ad2.length := by
            rw [List.length_append] at hl'
            simp at hl'
            omega
          subst e
          rw [List.getElem?_append_right (Nat.le_refl _), Nat.sub_self] at ha
          rw [S2.len, List.getElem?_append_right (Nat.le_refl _), Nat.sub_self] at hm
          have e1 : L = a := by simpa using ha
          have e2 : MO.lst ys = m := by simpa using hm
          rw [← e1, ← e2]
          exact ⟨ws, hl, Paired.mono (fun v x hx => up hx) rw⟩
    exact h2 _ _ _ E3 S3 _ ⟨L, by rw [← S2.len]; simp, rfl⟩
  · exact h1.elim
section
variable {elt tg iter : Expr} {ifs : List Expr} {scope : Scope} {own : List (Str × Nat)} {pos : Pos} {mi : MI} {mg : MG} {mt : MT} {me : ME}
abbrev BlkI := Shared × Hp × Addr × List (Str × Addr) × List Addr
abbrev blkX (X : Cx) (scope : Scope) (b : BlkI) : Cx := X.blk b.1 b.2.1 scope (compEnvC scope b.2.2.2.1 b.2.2.1 X.env) b.2.2.2.2
theorem de_lc (hs : G.Stb) (hc : X.calm = true) (hN : X.N.Nodup) (hi : DI G W X tg iter mi) (ok : BlkOk X.N X.env.scope scope own)
    (hg : ∀ b : BlkI, DG G (blkX X scope b) (own.map (·.2)) tg mg) (ht : ∀ b : BlkI, DTs G (fun _ _ _ _ => False) (blkX X scope b) ifs mt) (he : ∀ b : BlkI, DE G (fun _ _ _ _ => False) (blkX X scope b) elt me) (hf : ∀ x, foldedSetIterable iter X.env x = pure x := by intro _; rfl) :
    DE G W X (.ListComp elt [⟨tg, iter, ifs, 0⟩] scope pos) (mLc (own.map (·.2)) mi mg mt me) := by
  obtain ⟨wi, pi, si⟩ := hi
  obtain ⟨g, pg, sg⟩ := uniG hg
  obtain ⟨tt, pt, st⟩ := uniT ht
  obtain ⟨te, pe, se⟩ := uniE he
  exact ⟨_, pe_lc hc hN pi ok (fun s H C cl fp => pg (s, H, C, cl, fp)) (fun s H C cl fp => pt (s, H, C, cl, fp)) (fun s H C cl fp => pe (s, H, C, cl, fp)) hf, sim_lc hs si sg st se⟩
theorem de_lcC (hs : G.Stb) (hc : X.calm = true) (hN : X.N.Nodup) (hi : DI G W X tg iter mi) (ok : BlkOk X.N X.env.scope scope own)
    (hg : ∀ b : BlkI, DG G (blkX X scope b) (own.map (·.2)) tg mg) (ht : ∀ b : BlkI, DTs G (fun _ _ _ _ => False) (blkX X scope b) ifs mt) (he : ∀ b : BlkI, DE G (fun _ _ _ _ => False) (blkX X scope b) elt me) (hf : ∀ x, foldedSetIterable iter X.env x = pure x := by intro _; rfl) :
    DE G W X (.ListComp elt [⟨tg, iter, ifs, 0⟩] scope pos) (mLcC (own.map (·.2)) mi mg mt me) := by
  obtain ⟨wi, pi, si⟩ := hi
  obtain ⟨g, pg, sg⟩ := uniG hg
  obtain ⟨tt, pt, st⟩ := uniT ht
  obtain ⟨te, pe, se⟩ := uniE he
  exact ⟨_, pe_lc hc hN pi ok (fun s H C cl fp => pg (s, H, C, cl, fp)) (fun s H C cl fp => pt (s, H, C, cl, fp)) (fun s H C cl fp => pe (s, H, C, cl, fp)) hf, sim_lcC hs si sg st se⟩
/-- y = [..] -/
theorem ds_setLc {i : Nat} {y : Str} {py spos : Pos} (hs : G.Stb) (hc : X.calm = true) (hN : X.N.Nodup) (hy : X.N[i]? = some y) (hyl : X.env.scope.names.lookup y = some .local) (hsw : swapsWith (.ListComp elt [⟨tg, iter, ifs, 0⟩] scope pos) (some (.Name y py)) spos.line X.env = pure true)
    (hi : DI G W X tg iter mi) (ok : BlkOk X.N X.env.scope scope own)
    (hg : ∀ b : BlkI, DG G (blkX X scope b) (own.map (·.2)) tg mg) (ht : ∀ b : BlkI, DTs G (fun _ _ _ _ => False) (blkX X scope b) ifs mt) (he : ∀ b : BlkI, DE G (fun _ _ _ _ => False) (blkX X scope b) elt me) (hf : ∀ x, foldedSetIterable iter X.env x = pure x := by intro _; rfl) :
    DS G W X (.Assign [.Name y py] (.ListComp elt [⟨tg, iter, ifs, 0⟩] scope pos) spos) (mAsg (mLc (own.map (·.2)) mi mg mt me) (gN i)) := by
  obtain ⟨wi, pi, si⟩ := hi
  obtain ⟨g, pg, sg⟩ := uniG hg
  obtain ⟨tt, pt, st⟩ := uniT ht
  obtain ⟨te, pe, se⟩ := uniE he
  exact ⟨_, ps_setLc hc hN hy hyl hsw pi ok (fun s H C cl fp => pg (s, H, C, cl, fp)) (fun s H C cl fp => pt (s, H, C, cl, fp)) (fun s H C cl fp => pe (s, H, C, cl, fp)) hf, sim_asg (sim_lc hs si sg st se) (simG_name (vs := [i]) hs (List.mem_singleton.mpr rfl))⟩
theorem ds_setLcC {i : Nat} {y : Str} {py spos : Pos} (hs : G.Stb) (hc : X.calm = true) (hN : X.N.Nodup) (hy : X.N[i]? = some y) (hyl : X.env.scope.names.lookup y = some .local) (hsw : swapsWith (.ListComp elt [⟨tg, iter, ifs, 0⟩] scope pos) (some (.Name y py)) spos.line X.env = pure true)
    (hi : DI G W X tg iter mi) (ok : BlkOk X.N X.env.scope scope own)
    (hg : ∀ b : BlkI, DG G (blkX X scope b) (own.map (·.2)) tg mg) (ht : ∀ b : BlkI, DTs G (fun _ _ _ _ => False) (blkX X scope b) ifs mt) (he : ∀ b : BlkI, DE G (fun _ _ _ _ => False) (blkX X scope b) elt me) (hf : ∀ x, foldedSetIterable iter X.env x = pure x := by intro _; rfl) :
    DS G W X (.Assign [.Name y py] (.ListComp elt [⟨tg, iter, ifs, 0⟩] scope pos) spos) (mAsg (mLcC (own.map (·.2)) mi mg mt me) (gN i)) := by
  obtain ⟨wi, pi, si⟩ := hi
  obtain ⟨g, pg, sg⟩ := uniG hg
  obtain ⟨tt, pt, st⟩ := uniT ht
  obtain ⟨te, pe, se⟩ := uniE he
  exact ⟨_, ps_setLc hc hN hy hyl hsw pi ok (fun s H C cl fp => pg (s, H, C, cl, fp)) (fun s H C cl fp => pt (s, H, C, cl, fp)) (fun s H C cl fp => pe (s, H, C, cl, fp)) hf, sim_asg (sim_lcC hs si sg st se) (simG_name (vs := [i]) hs (List.mem_singleton.mpr rfl))⟩
end
end

/-! ### errors -/
/-- what __init__ promises: one field | two fields -/
def spExc (fld : Str) (C : Addr) : Sp := fun vs H Q _ => ∃ (a : Addr) (v : V), vs = [.ref a, v] ∧ H a = some (exo a C none) ∧ ∀ dx, H dx = none → dx ≠ a → Q .non (upd (upd H dx (exd dx [(fld, v)])) a (exo a C (some dx)))
def spExc2 (fld fld2 : Str) (C : Addr) : Sp := fun vs H Q _ => ∃ (a : Addr) (v v2 : V), vs = [.ref a, v, v2] ∧ H a = some (exo a C none) ∧ ∀ dx, H dx = none → dx ≠ a → Q .non (upd (upd (upd H dx (exd dx [(fld, v)])) a (exo a C (some dx))) dx (exd dx [(fld2, v2), (fld, v)]))
theorem mk_exc {C : Addr} {fld : Str} {v : V} {H1 : Hp} {Q : XK} (q : ∀ d H', H1 d = none → Same H1 H' → H' d = some (.xd [(fld, v)]) → Q (.ref C) (some d) H') :
    [v].length ≤ 1000 ∧ ∀ a, H1 a = none → spExc fld C (.ref a :: ([v] ++ [])) (upd H1 a (exo a C none)) (fun v H2 => v = .non ∧ ∃ (d : Addr) (fs : List (Str × V)), H2 a = some (exo a C (some d)) ∧ H2 d = some (exd d fs) ∧ H1 d = none ∧ Q (.ref C) (some d) (upd (del H2 a) d (.xd fs))) (fun _ _ _ => False) := by
  refine ⟨(by show 1 ≤ 1000; decide), fun a ha => ⟨a, v, rfl, upd_same, fun dx hd ne => ?_⟩⟩
  have hd1 : H1 dx = none := by
    rw [upd_ne ne] at hd
    exact hd
  refine ⟨rfl, dx, [(fld, v)], upd_same, by rw [upd_ne ne, upd_same], hd1, q dx _ hd1 (fun b o hb => ?_) upd_same⟩
  have nb : b ≠ dx := ne_of_none hb hd1
  have na : b ≠ a := ne_of_none hb ha
  rw [upd_ne nb, del_ne na, upd_ne na, upd_ne nb, upd_ne na]
  exact hb
theorem mk_exc2 {C : Addr} {fld fld2 : Str} {v v2 : V} {H1 : Hp} {Q : XK} (q : ∀ d H', H1 d = none → Same H1 H' → H' d = some (.xd [(fld2, v2), (fld, v)]) → Q (.ref C) (some d) H') :
    [v, v2].length ≤ 1000 ∧ ∀ a, H1 a = none → spExc2 fld fld2 C (.ref a :: ([v, v2] ++ [])) (upd H1 a (exo a C none)) (fun v H2 => v = .non ∧ ∃ (d : Addr) (fs : List (Str × V)), H2 a = some (exo a C (some d)) ∧ H2 d = some (exd d fs) ∧ H1 d = none ∧ Q (.ref C) (some d) (upd (del H2 a) d (.xd fs))) (fun _ _ _ => False) := by
  refine ⟨(by show 2 ≤ 1000; decide), fun a ha => ⟨a, v, v2, rfl, upd_same, fun dx hd ne => ?_⟩⟩
  have hd1 : H1 dx = none := by
    rw [upd_ne ne] at hd
    exact hd
  refine ⟨rfl, dx, [(fld2, v2), (fld, v)], by rw [upd_ne ne.symm, upd_same], upd_same, hd1, q dx _ hd1 (fun b o hb => ?_) upd_same⟩
  have nb : b ≠ dx := ne_of_none hb hd1
  have na : b ≠ a := ne_of_none hb ha
  rw [upd_ne nb, del_ne na, upd_ne nb, upd_ne na, upd_ne nb, upd_ne na]
  exact hb
section
variable {G : Ga} {W : L2.WX} {X : Cx}
/-- more is known, a new frozen thing among it -/
theorem SR.grow {H F H' : Hp} {ad : List Addr} {st : Sto} {p : Addr} {o : HO} (S : SR G H F ad st) (s : Same H H') (hp : H p = none) (hp' : H' p = some o) : SR G H' (upd F p o) ad st ∧ Ext H F ad H' (upd F p o) ad := by
  have fp : F p = none := S.sub.free hp
  have sf : Same F (upd F p o) := fun b u h => by rw [upd_ne (ne_of_none h fp)]; exact h
  have ne : ∀ a ∈ ad, a ≠ p := fun a h e => by
    obtain ⟨u, hu⟩ := S.there h
    rw [e, hp] at hu
    cases hu
  have E : Ext H F ad H' (upd F p o) ad := ⟨⟨[], (List.append_nil _).symm⟩, sf, fun b u _ h => s b u h, fun b h => s.free h, fun b u h => by
    by_cases e : b = p
    · rw [e]; exact .inr hp
    · rw [upd_ne e] at h; exact .inl h, fun b h => .inl h⟩
  refine ⟨⟨fun b u h => ?_, S.len, S.nd, fun a h => by rw [upd_ne (ne a h)]; exact S.dis a h, fun n a m h hm => ?_⟩, E⟩
  · by_cases e : b = p
    · rw [e, upd_same] at h
      rw [e, hp']; exact h
    · rw [upd_ne e] at h; exact s b u (S.sub b u h)
  · have hz := S.ob n a m h hm
    obtain ⟨u, hu⟩ := hz.there
    exact hz.mono E (by rw [hu]; exact s a u hu)
def mRaise (c : String) (fls : List String) (a : MA) : MS := fun ρ st => match a ρ st with
  | .ok vs st => if vs.length = fls.length then .er c (fls.zip vs).reverse ρ st else .bad
  | .er c fs st => .er c fs ρ st
  | .bad => .bad
theorem ds_raise1 {s : Stmt} {es : List Expr} {m : MA} {c fld : String} (hc : c ∈ G.xs) (hp : ∀ {t : TA}, PA X es t → PS X s (fun _ σ H => tMkO (G.ca c) (spExc (Str.ofString fld) (G.ca c)) [] t σ H fun cls d H' => W cls d σ H')) (h : DA G W X es m) : DS G W X s (mRaise c [fld] m) := by
  obtain ⟨t, p, sm⟩ := h
  refine ⟨_, hp p, ?_⟩
  intro σ ρ H F ad st D R S h
  refine sm σ ρ H F ad st _ R S ?_
  unfold mRaise at h
  revert h
  generalize m ρ st = ra
  intro h
  cases ra with
  | bad => exact h
  | er c fs st1 => exact fun H' F' ad' cls d e S' z => h H' F' ad' σ cls d e S' (R.ext e) z
  | ok xs st1 =>
    intro H1 F1 ad1 e1 S1 ws rw
    match xs, rw, h with
    | [], _, h => exact h.elim
    | _ :: _ :: _, _, h =>
      have h : PoS G W H F ad D (if _ = 1 then _ else .bad) := h
      rw [if_neg (by simp)] at h
      exact h.elim
    | [x], .cons (a := v) r .nil, h =>
      refine mk_exc (C := G.ca c) (fld := Str.ofString fld) (v := v) (H1 := H1) (Q := fun cls d H' => W cls d σ H') fun d H' hd s' hx => ?_
      obtain ⟨S2, E2⟩ := S1.grow s' hd hx
      exact h H' _ ad1 σ _ _ (e1.trans E2) S2 ((R.ext e1).ext E2) ⟨hc, rfl, .inr ⟨d, _, rfl, upd_same, .cons ⟨rfl, r.ext E2⟩ .nil⟩⟩
theorem ds_raise2 {s : Stmt} {es : List Expr} {m : MA} {c fld fld2 : String} (hc : c ∈ G.xs) (hp : ∀ {t : TA}, PA X es t → PS X s (fun _ σ H => tMkO (G.ca c) (spExc2 (Str.ofString fld) (Str.ofString fld2) (G.ca c)) [] t σ H fun cls d H' => W cls d σ H')) (h : DA G W X es m) : DS G W X s (mRaise c [fld, fld2] m) := by
  obtain ⟨t, p, sm⟩ := h
  refine ⟨_, hp p, ?_⟩
  intro σ ρ H F ad st D R S h
  refine sm σ ρ H F ad st _ R S ?_
  unfold mRaise at h
  revert h
  generalize m ρ st = ra
  intro h
  cases ra with
  | bad => exact h
  | er c fs st1 => exact fun H' F' ad' cls d e S' z => h H' F' ad' σ cls d e S' (R.ext e) z
  | ok xs st1 =>
    intro H1 F1 ad1 e1 S1 ws rw
    match xs, rw, h with
    | [], _, h => exact h.elim
    | [_], _, h => exact h.elim
    | _ :: _ :: _ :: _, _, h =>
      have h : PoS G W H F ad D (if _ = 2 then _ else .bad) := h
      rw [if_neg (by simp)] at h
      exact h.elim
    | [x, y], .cons (a := v) r (.cons (a := w) r2 .nil), h =>
      refine mk_exc2 (C := G.ca c) (fld := Str.ofString fld) (fld2 := Str.ofString fld2) (v := v) (v2 := w) (H1 := H1) (Q := fun cls d H' => W cls d σ H') fun d H' hd s' hx => ?_
      obtain ⟨S2, E2⟩ := S1.grow s' hd hx
      exact h H' _ ad1 σ _ _ (e1.trans E2) S2 ((R.ext e1).ext E2) ⟨hc, rfl, .inr ⟨d, _, rfl, upd_same, .cons ⟨rfl, r2.ext E2⟩ (.cons ⟨rfl, r.ext E2⟩ .nil)⟩⟩
/-! an except suite: the error is known -/
def Ga.sx (G : Ga) (a : Addr) (i : Nat) (c : String) (fs : List (String × Va)) (cls : Value) (d : Option Addr) : Ga := { G with
  jv := fun F ad σ => σ[i]? = some (some (.ref a)) ∧ ErrR G F ad c fs cls d
  jm := fun {H F H' F' ad ad' σ} e h => by
    obtain ⟨h0, h1, h2, h3⟩ := h
    refine ⟨h0, h1, h2, ?_⟩
    rcases h3 with h3 | ⟨dx, vfs, e1, e2, e3⟩
    · exact .inl h3
    · exact .inr ⟨dx, vfs, e1, e.fz _ _ e2, RepFs.ext e e3⟩ }
section
variable {G' : Ga} (hK : G'.K = G.K) (hca : G'.ca = G.ca) (hcs : G'.cs = G.cs)
include hK hca hcs
mutual
theorem Rep.swap {F : Hp} : ∀ {v : V} {d : D}, Rep G F v d → Rep G' F v d
  | _, _, .non => .non
  | _, _, .bl b => .bl b
  | _, _, .int i => .int i
  | _, _, .str x => .str x
  | _, _, .lst h t => .lst h (Reps.swap t)
  | _, _, .tup h t => .tup (by rw [hK]; exact h) (Reps.swap t)
  | _, _, .obj hc h t => .obj (by rw [hcs]; exact hc) (by rw [hca]; exact h) (Repf.swap t)
  | _, _, .cls c hc => by
    have := Rep.cls (G := G') (F := F) c (by rw [hcs]; exact hc)
    rw [hca] at this
    exact this
  | _, _, .ty n => .ty n
  | _, _, .lck h => .lck (by rw [hK]; exact h)
  | _, _, .idn h => .idn (Rep.swap h)
theorem Reps.swap {F : Hp} : ∀ {v : List V} {d : List D}, Reps G F v d → Reps G' F v d
  | _, _, .nil => .nil
  | _, _, .cons h t => .cons (Rep.swap h) (Reps.swap t)
theorem Repf.swap {F : Hp} : ∀ {v : List (Str × V)} {d : List (String × D)}, Repf G F v d → Repf G' F v d
  | _, _, .nil => .nil
  | _, _, .cons h t => .cons (Rep.swap h) (Repf.swap t)
end
theorem RepV.swap {F : Hp} {ad : List Addr} {v : V} {x : Va} (h : RepV G F ad v x) : RepV G' F ad v x := by
  cases x with
  | d x => exact Rep.swap hK hca hcs h
  | ref n => exact h
theorem RepVs.swap {F : Hp} {ad : List Addr} {v : List V} {x : List Va} (h : RepVs G F ad v x) : RepVs G' F ad v x := Paired.mono (fun _ _ z => RepV.swap hK hca hcs z) h
theorem RepFs.swap {F : Hp} {ad : List Addr} {v : List (Str × V)} {x : List (String × Va)} (h : RepFs G F ad v x) : RepFs G' F ad v x := Paired.mono (fun _ _ z => ⟨z.1, RepV.swap hK hca hcs z.2⟩) h
theorem SR.swap {H F : Hp} {ad : List Addr} {st : Sto} (S : SR G H F ad st) : SR G' H F ad st := by
  refine ⟨S.sub, S.len, S.nd, S.dis, fun n a o h ho => ?_⟩
  have hz := S.ob n a o h ho
  cases o with
  | lst ds => obtain ⟨vs, z, r⟩ := hz; exact ⟨vs, z, RepVs.swap hK hca hcs r⟩
  | obj c fs => obtain ⟨hc, dx, vfs, z, r⟩ := hz; exact ⟨by rw [hcs]; exact hc, dx, vfs, by rw [hca]; exact z, RepFs.swap hK hca hcs r⟩
  | dct kvs => exact hz.elim
end
/-- e.f in the suite -/
def mXf (fs : List (String × Va)) (f : String) : ME := fun _ st => match fs.lookup f with
  | some v => .ok v st
  | none => .bad
theorem de_xf {a : Addr} {oe : Obj} {cls : Value} {d : Option Addr} {pn : List (Addr × Obj)} {e : Expr} {pos : Pos} {i : Nat} {c f : String} {fs : List (String × Va)} (hp : PE (X.suite a ((a, oe) :: pn)) (.Attribute e (Str.ofString f) pos) (tXf a cls d (G.ca c) (Str.ofString f) (tVar i))) : DE (G.sx a i c fs cls d) W (X.suite a ((a, oe) :: pn)) (.Attribute e (Str.ofString f) pos) (mXf fs f) := by
  refine ⟨_, hp, ?_⟩
  intro σ ρ H F ad st Q R S h
  obtain ⟨h0, h1, h2, h3⟩ := R.j
  unfold mXf at h
  cases z : fs.lookup f with
  | none => rw [z] at h; exact h.elim
  | some x =>
    rw [z] at h
    refine ⟨.ref a, h0, rfl, h2, ?_⟩
    rcases h3 with ⟨rfl, _⟩ | ⟨dx, vfs, e1, e2, e3⟩
    · cases z
    · obtain ⟨w, q1, q2⟩ := lookup_f e3 z
      exact ⟨dx, vfs, w, e1, S.sub _ _ e2, q1, fin_same S h _ (RepV.swap (G := G) (G' := G.sx a i c fs cls d) rfl rfl rfl q2)⟩
/-- try: body except C as n: suite -/
def mTry (i : Nat) (c0 : String) (b : MS) (h : List (String × Va) → MS) : MS := fun ρ st => match b ρ st with
  | .er c fs ρ st => if c = c0 then (if i < ρ.length then (match h fs (ρ.set i none) st with
    | .nx ρ st => .nx (ρ.set i none) st
    | .rt v st => .rt v st
    | .bk ρ st => .bk (ρ.set i none) st
    | .ct ρ st => .ct (ρ.set i none) st
    | _ => .bad) else .bad) else .er c fs ρ st
  | o => o
theorem RelE.out {F : Hp} {ad : List Addr} {σ : L2.St} {ρ : Ev} {i : Nat} {a : Addr} {c : String} {fs : List (String × Va)} {cls : Value} {d : Option Addr} (hj : ∀ F ad σ, G.jv F ad σ) (R : RelE (G.sx a i c fs cls d) F ad σ ρ) : RelE G F ad (σ.set i none) (ρ.set i none) := by
  refine ⟨by rw [List.length_set, List.length_set]; exact R.len, fun j u e => ?_, hj _ _ _⟩
  by_cases q : i = j
  · subst q
    have hl : i < ρ.length := by
      have := (List.getElem?_eq_some_iff.mp e).1
      rw [List.length_set] at this
      exact this
    rw [List.getElem?_set_self hl] at e
    cases e
  · rw [List.getElem?_set_ne q] at e
    obtain ⟨v, h1, h2⟩ := R.at_ j u e
    exact ⟨v, by rw [List.getElem?_set_ne q]; exact h1, RepV.swap (G := G.sx a i c fs cls d) (G' := G) rfl rfl rfl h2⟩
theorem ds_try_as {x n : Str} {i : Nat} {c0 : String} {body suite : List Stmt} {b₀ : Stmt} {np pos pos' : Pos} {mb : MS} {mh : List (String × Va) → MS} (hj : ∀ F ad σ, G.jv F ad σ) (hK : X.K = G.K) (h0 : c0 ∈ G.xs) (hs : X.stack = X.env :: X.outer) (hf : X.env.frame = some X.env.locals) (hN : X.N.Nodup) (hi : X.N[i]? = some n) (hln : X.env.kindOf n = some .local) (hc : Names X x (.ref (G.ca c0))) (tk : Takes X W)
    (hb : ∀ (W' : WX) (pn : List (Addr × Obj)) (xe : Value → Shared → Prop), Takes (X.tr pn xe) W' → PassesOwn (model X.prog X.w) X.A X.env xe → DSs G W' (X.tr pn xe) body mb)
    (hsu : ∀ (fs : List (String × Va)) (a : Addr) (oe : Obj) (d : Option Addr) (pn : List (Addr × Obj)), Zc (.ref (G.ca c0)) d oe → (∃ vs, oe.data = .fields vs) → DSs (G.sx a i c0 fs (.ref (G.ca c0)) d) (fun _ _ _ _ => False) (X.suite a ((a, oe) :: pn)) (b₀ :: suite) (mh fs)) :
    DS G W X (.Try body [.ExceptHandler (some (.Name x np)) (some n) (b₀ :: suite) pos'] [] [] pos) (mTry i c0 mb mh) := by
  have ub : ∀ W' : WX, ∃ t, (∀ (pn : List (Addr × Obj)) (xe : Value → Shared → Prop), Takes (X.tr pn xe) W' → PassesOwn (model X.prog X.w) X.A X.env xe → PSs (X.tr pn xe) body t) ∧ SimS G W' t mb := fun W' => by
    obtain ⟨t, h1, h2⟩ := uniSs (G := G) (W := W') (ι := { p : List (Addr × Obj) × (Value → Shared → Prop) // Takes (X.tr p.1 p.2) W' ∧ PassesOwn (model X.prog X.w) X.A X.env p.2 }) (Y := fun p => X.tr p.1.1 p.1.2) (e := body) (m := mb) fun p => hb W' p.1.1 p.1.2 p.2.1 p.2.2
    exact ⟨t, fun pn xe a b => h1 ⟨(pn, xe), a, b⟩, h2⟩
  let tb : WX → TS := fun W' => (ub W').choose
  have tbp : ∀ W' (pn : List (Addr × Obj)) (xe : Value → Shared → Prop), Takes (X.tr pn xe) W' → PassesOwn (model X.prog X.w) X.A X.env xe → PSs (X.tr pn xe) body (tb W') := fun W' => (ub W').choose_spec.1
  have tbs : ∀ W', SimS G W' (tb W') mb := fun W' => (ub W').choose_spec.2
  let ts : Addr → Value → Option Addr → TS := fun a cls d D σ H => ∀ (oe : Obj) (pn : List (Addr × Obj)), Zc cls d oe → (∃ vs, oe.data = .fields vs) → ∃ t, PSs (X.suite a ((a, oe) :: pn)) (b₀ :: suite) t ∧ t D σ H
  refine ⟨_, ps_try_as (tb := tb) (ts := ts) hs hf hN hi hln hc tk tbp (fun a oe cls d pn hz hv => ⟨fun pins s σ H D I h => ?_⟩), ?_⟩
  · obtain ⟨t, p, z⟩ := h oe pn hz hv
    exact p.run pins s σ H D I z
  · intro σ ρ H F ad st D R S h
    refine tbs _ σ ρ H F ad st D R S ?_
    unfold mTry at h
    revert h
    generalize mb ρ st = o
    intro h
    cases o with
    | nx ρ1 st1 => exact h
    | rt v st1 => exact h
    | bk ρ1 st1 => exact h
    | ct ρ1 st1 => exact h
    | bad => exact h
    | er c fs ρ1 st1 =>
      intro H1 F1 ad1 σ1 cls d e1 S1 R1 er
      obtain ⟨hx, rfl, er3⟩ := er
      refine ⟨decide (c = c0), by rw [hK]; exact G.xm c hx c0 h0, fun hd a ha oe pn hz hv => ?_, fun hd => ?_⟩
      · have e : c = c0 := of_decide_eq_true hd
        subst e
        obtain ⟨t, p, z⟩ := hsu fs a oe d pn hz hv
        refine ⟨t, p, ?_⟩
        have hil : i < σ1.length ∨ ¬ i < σ1.length := Classical.em _
        have h : PoS G W H F ad D (if c = c then (if i < ρ1.length then (match mh fs (ρ1.set i none) st1 with
          | .nx ρ st => .nx (ρ.set i none) st
          | .rt v st => .rt v st
          | .bk ρ st => .bk (ρ.set i none) st
          | .ct ρ st => .ct (ρ.set i none) st
          | _ => .bad) else .bad) else .er c fs ρ1 st1) := h
        rw [if_pos rfl] at h
        have h := PoS.from e1 h
        rcases hil with hil | hil
        · rw [if_pos (by rw [← R1.len]; exact hil)] at h
          have R2 : RelE (G.sx a i c fs (.ref (G.ca c)) d) F1 ad1 (σ1.set i (some (.ref a))) (ρ1.set i none) := by
            refine ⟨by rw [List.length_set, List.length_set]; exact R1.len, fun j u e => ?_, List.getElem?_set_self hil, hx, rfl, er3⟩
            by_cases q : i = j
            · subst q
              rw [List.getElem?_set_self (by rw [← R1.len]; exact hil)] at e
              cases e
            · rw [List.getElem?_set_ne q] at e
              obtain ⟨v, h1, h2⟩ := R1.at_ j u e
              exact ⟨v, by rw [List.getElem?_set_ne q]; exact h1, RepV.swap (G := G) (G' := G.sx a i c fs (.ref (G.ca c)) d) rfl rfl rfl h2⟩
          refine z _ _ H1 F1 ad1 st1 _ R2 (SR.swap (G := G) (G' := G.sx a i c fs (.ref (G.ca c)) d) rfl rfl rfl S1) ?_
          revert h
          generalize mh fs (ρ1.set i none) st1 = o
          intro h
          cases o with
          | nx ρ3 st3 => exact fun H4 F4 ad4 σ4 e4 S4 R4 => h H4 F4 ad4 _ e4 (SR.swap (G := G.sx a i c fs (.ref (G.ca c)) d) (G' := G) rfl rfl rfl S4) (R4.out hj)
          | bk ρ3 st3 => exact fun H4 F4 ad4 σ4 e4 S4 R4 => h H4 F4 ad4 _ e4 (SR.swap (G := G.sx a i c fs (.ref (G.ca c)) d) (G' := G) rfl rfl rfl S4) (R4.out hj)
          | ct ρ3 st3 => exact fun H4 F4 ad4 σ4 e4 S4 R4 => h H4 F4 ad4 _ e4 (SR.swap (G := G.sx a i c fs (.ref (G.ca c)) d) (G' := G) rfl rfl rfl S4) (R4.out hj)
          | rt v3 st3 => exact fun H4 F4 ad4 w e4 S4 r4 => h H4 F4 ad4 w e4 (SR.swap (G := G.sx a i c fs (.ref (G.ca c)) d) (G' := G) rfl rfl rfl S4) (RepV.swap (G := G.sx a i c fs (.ref (G.ca c)) d) (G' := G) rfl rfl rfl r4)
          | er c3 fs3 ρ3 st3 => exact h.elim
          | bad => exact h.elim
        · rw [if_neg (by rw [← R1.len]; exact hil)] at h
          exact h.elim
      · have e : ¬ c = c0 := of_decide_eq_false hd
        have h : PoS G W H F ad D (if c = c0 then (if i < ρ1.length then (match mh fs (ρ1.set i none) st1 with
          | .nx ρ st => .nx (ρ.set i none) st
          | .rt v st => .rt v st
          | .bk ρ st => .bk (ρ.set i none) st
          | .ct ρ st => .ct (ρ.set i none) st
          | _ => .bad) else .bad) else .er c fs ρ1 st1) := h
        rw [if_neg e] at h
        exact h H1 F1 ad1 σ1 _ d e1 S1 R1 ⟨hx, rfl, er3⟩
end

/-! ### defs by their mirrors, taken as one -/
section
variable {G : Ga} {W : L2.WX} {X : Cx}
def OkB (P : Program) (w : World) (K : PySem.W.Frag) (mg : Str → Option Value) (base : Heap) (k : Nat) (f : Addr) (ps : List Str) (dvs : List V) (sp : Sp) : Prop :=
  ∃ fd ds, FnOk P w K mg base (L2.CX P w) k f fd ps sp ∧ Vals dvs ds ∧ Binds K fd ps ds ∧ PySem.W.keepIn K (.ref f) = true
theorem okb_mk {P : Program} {w : World} {K : PySem.W.Frag} {mg : Str → Option Value} {base : Heap} {x qual : Str} {params : Arguments} {body : List Stmt} {scope : Scope} {f : Addr} {ps : List Str} {k : Nat} {sp : Sp} (F : ∃ fd, FunD K x qual params body scope [] [] f fd)
    (b : ∀ (kV doc pm : Value) (an : Option Addr) (cdv ct : Value) (us : List Value), us.length = ps.length → bindArgs (PySem.W.fnOf x qual params body scope .none kV doc pm an cdv ct) ⟨us, []⟩ = pure (ps.zip us))
    (h : ∀ fd, FunD K x qual params body scope [] [] f fd → FnOk P w K mg base (L2.CX P w) k f fd ps sp) : OkB P w K mg base k f ps [] sp := by
  obtain ⟨fd, F⟩ := F
  exact ⟨fd, [], h fd F, .nil, F.bindsN b, F.kp⟩
/-- with defaults: all given | the last ones left out -/
theorem okb_mkD {P : Program} {w : World} {K : PySem.W.Frag} {mg : Str → Option Value} {base : Heap} {x qual : Str} {params : Arguments} {body : List Stmt} {scope : Scope} {f : Addr} {ps : List Str} {k : Nat} {sp : Sp} {dvs : List V} (F : ∃ fd, FunD K x qual params body scope dvs [] f fd) (n j : Nat) (hd : dvs ≠ []) (hn : n + (dvs.length - j) = ps.length)
    (b : ∀ (T : Addr) (kV doc pm : Value) (an : Option Addr) (cdv ct : Value) (us its : List Value), us.length = n → its.length = dvs.length →
      ∃ k, bindArgs (PySem.W.fnOf x qual params body scope (.ref T) kV doc pm an cdv ct) ⟨us, []⟩ = seqItems? (.ref T) >>= k ∧ k (some its.toArray) = pure (ps.zip (us ++ its.drop j)))
    (h : ∀ fd, FunD K x qual params body scope dvs [] f fd → FnOk P w K mg base (L2.CX P w) k f fd ps sp) : OkB P w K mg base k f ps (dvs.drop j) sp := by
  obtain ⟨fd, F⟩ := F
  obtain ⟨ds, v, bd⟩ := F.binds1 n j hd hn b
  exact ⟨fd, ds, h fd F, v, bd, F.kp⟩
section
variable {k : Nat} {fa : Addr} {ps : List Str} {f : MF} {dvs : List V} {es : List D} {x : Str} {e o : Expr} {ee : List Expr} {p pos apos : Pos} {m : MA} {mo : ME} {c mth : String}
theorem ck_call (F : OkB X.prog X.w X.K X.mg X.base k fa ps dvs (spM G f)) (hd : DflR G dvs es) (hr : Room k X.A) (hg : Gl X x) (hm : X.mg x = some (.ref fa)) (tk : Takes X W)
    (ha : DA G W X (e :: ee) m) (hdb : (x == ("__debug__" : Str)) = false := by decide) (he : starEach (e :: ee) X.env = (false, eval e X.env) :: starEach ee X.env := by rfl) (hpl : (backTo pos (starEach ee X.env)).any (·.1) = false := by rfl) : DE G W X (.Call (.Name x p) (e :: ee) [] pos) (mCall (withD es f) m) := by
  obtain ⟨t, pt, st⟩ := ha
  obtain ⟨fd, ds, F, hv, hb, hk⟩ := F
  exact ⟨_, pe_callSD F hr hg hm hk hb hv (passAt tk) pt hdb he hpl, sim_call hd (.inl fun ds st => rfl) st⟩
theorem ck_pcall (F : OkB X.prog X.w X.K X.mg X.base k fa ps dvs (spM G f)) (hd : DflR G dvs es) (hr : Room k X.A) (hg : Gl X x) (hm : X.mg x = some (.ref fa)) (tk : Takes X W)
    (ha : DA G W X (e :: ee) m) (hdb : (x == ("__debug__" : Str)) = false := by decide) (he : starEach (e :: ee) X.env = (false, eval e X.env) :: starEach ee X.env := by rfl) (hpl : (backTo pos (starEach ee X.env)).any (·.1) = false := by rfl) : DE G W X (.Call (.Name x p) (e :: ee) [] pos) (mCall (withD es (pureF f)) m) := by
  obtain ⟨t, pt, st⟩ := ha
  obtain ⟨fd, ds, F, hv, hb, hk⟩ := F
  exact ⟨_, pe_callSD F hr hg hm hk hb hv (passAt tk) pt hdb he hpl, sim_call hd (.inr fun ds st => rfl) st⟩
theorem ck_call0 (F : OkB X.prog X.w X.K X.mg X.base k fa ps dvs (spM G f)) (hd : DflR G dvs es) (hr : Room k X.A) (hg : Gl X x) (hm : X.mg x = some (.ref fa)) (tk : Takes X W) (hdb : (x == ("__debug__" : Str)) = false := by decide) : DE G W X (.Call (.Name x p) [] [] pos) (mCall (withD es f) mNil) := by
  obtain ⟨fd, ds, F, hv, hb, hk⟩ := F
  exact ⟨_, pe_callSD0 F hr hg hm hk hb hv (passAt tk) hdb, fun σ ρ H F ad st Q R S h => ⟨F, ad, st, es.map Va.d, S, (hd F).va, h⟩⟩
theorem ck_meth {pl : Sem Bool} (g : MF) (hK : X.K = G.K) (hc : c ∈ G.cs) (he : DE G W X o mo) (hm : Meth G.K (G.ca c) (Str.ofString mth) fa) (F : OkB X.prog X.w X.K X.mg X.base k fa ps dvs (spM G f)) (hr : Room k X.A) (hd : DflR G dvs es) (tk : Takes X W)
    (hg : g = withD es f ∨ g = withD es (pureF f)) (ha : DA G W X (e :: ee) m)
    (hst : starEach (e :: ee) X.env = (false, eval e X.env) :: starEach ee X.env := by rfl) (hpl : (backTo pos (starEach ee X.env)).any (·.1) = false := by rfl)
    (ht : eval (.Call (.Attribute o (Str.ofString mth) apos) (e :: ee) [] pos) X.env = (do
      let ov ← eval o X.env
      standAt apos.atName
      let (f, first) ← holding [ov] (getMethod ov (Str.ofString mth) pl)
      callWith pos f first (backTo pos (starEach (e :: ee) X.env)) (backToKw pos (keywordEach [] X.env))) := by rfl) : DE G W X (.Call (.Attribute o (Str.ofString mth) apos) (e :: ee) [] pos) (mMeth c mth g mo m) := by
  obtain ⟨fd, ds, F, hv, hb, hk⟩ := F
  exact de_meth (pl := pl) g he (by rw [hK]; exact (G.cok c hc).cl) (by rw [hK]; exact hm) F hr hb hv hd tk (hg.elim (fun e => .inl fun ds st => by rw [e]; rfl) fun e => .inr fun ds st => by rw [e]; rfl) ha hst hpl ht
theorem ck_meth0 {pl : Sem Bool} (g : MF) (hK : X.K = G.K) (hc : c ∈ G.cs) (he : DE G W X o mo) (hm : Meth G.K (G.ca c) (Str.ofString mth) fa) (F : OkB X.prog X.w X.K X.mg X.base k fa ps dvs (spM G f)) (hr : Room k X.A) (hd : DflR G dvs es) (tk : Takes X W)
    (hg : g = withD es f ∨ g = withD es (pureF f))
    (ht : eval (.Call (.Attribute o (Str.ofString mth) apos) [] [] pos) X.env = (do
      let ov ← eval o X.env
      standAt apos.atName
      let (f, first) ← holding [ov] (getMethod ov (Str.ofString mth) pl)
      callWith pos f first (backTo pos (starEach [] X.env)) (backToKw pos (keywordEach [] X.env))) := by rfl) : DE G W X (.Call (.Attribute o (Str.ofString mth) apos) [] [] pos) (mMeth c mth g mo mNil) := by
  obtain ⟨fd, ds, F, hv, hb, hk⟩ := F
  exact de_meth0 (pl := pl) g he (by rw [hK]; exact (G.cok c hc).cl) (by rw [hK]; exact hm) F hr hb hv hd tk (hg.elim (fun e => .inl fun ds st => by rw [e]; rfl) fun e => .inr fun ds st => by rw [e]; rfl) ht
theorem ck_prop (g : MF) {pa : Addr} (hK : X.K = G.K) (hc : c ∈ G.cs) (he : DE G W X e mo) (hp : PropOf G.K (G.ca c) x pa fa) (F : OkB X.prog X.w X.K X.mg X.base k fa ps [] (spM G f)) (hr : Room (k + 1) X.A)
    (hg : g = f ∨ g = pureF f) (hab : attributeBase e x X.env (eval e X.env) = eval e X.env) : DE G W X (.Attribute e x pos) (mProp c g mo) := by
  obtain ⟨fd, ds, F, hv, hb, hk⟩ := F
  have : ds = [] := List.eq_nil_of_length_eq_zero (by rw [← hv.length]; rfl)
  subst this
  exact de_prop g he (by rw [hK]; exact (G.cok c hc).cl) (by rw [hK]; exact hp) F hr hb (hg.elim (fun e => .inl fun ds st => by rw [e]) fun e => .inr fun ds st => by rw [e]) hab
theorem ck_makeP (hK : X.K = G.K) (hc : c ∈ G.cs) (M : Mk G.K (G.ca c) fa) (F : OkB X.prog X.w X.K X.mg X.base k fa ps dvs (spM G f)) (hr : Room (k + 1) X.A) (hg : Gl X x) (hm : X.mg x = some (.ref (G.ca c))) (hd : DflR G dvs es) (tk : Takes X W)
    (ha : DA G W X (e :: ee) m) (hdb : (x == ("__debug__" : Str)) = false := by decide) (he : starEach (e :: ee) X.env = (false, eval e X.env) :: starEach ee X.env := by rfl) (hpl : (backTo pos (starEach ee X.env)).any (·.1) = false := by rfl) : DE G W X (.Call (.Name x p) (e :: ee) [] pos) (mCall (makeP c (withD es f)) m) := by
  obtain ⟨fd, ds, F, hv, hb, hk⟩ := F
  exact de_makeP hc (by rw [hK]; exact M) F hr hg hm hb hv hd tk ha hdb he hpl
theorem ck_makeC (hK : X.K = G.K) (hc : c ∈ G.cs) (M : Mk G.K (G.ca c) fa) (F : OkB X.prog X.w X.K X.mg X.base k fa ps dvs (spM G f)) (hr : Room (k + 1) X.A) (hg : Gl X x) (hm : X.mg x = some (.ref (G.ca c))) (hd : DflR G dvs es) (tk : Takes X W)
    (ha : DA G W X (e :: ee) m) (hdb : (x == ("__debug__" : Str)) = false := by decide) (he : starEach (e :: ee) X.env = (false, eval e X.env) :: starEach ee X.env := by rfl) (hpl : (backTo pos (starEach ee X.env)).any (·.1) = false := by rfl) : DE G W X (.Call (.Name x p) (e :: ee) [] pos) (mCall (makeC c (withD es f)) m) := by
  obtain ⟨fd, ds, F, hv, hb, hk⟩ := F
  exact de_makeC hc (by rw [hK]; exact M) F hr hg hm hb hv hd tk ha hdb he hpl
end
end
/-! ### the table of what is static -/
structure Tab where
  cs : List String := []
  fl : List String := []
  xs : List String := []
  xf : List (String × String) := []
  bl : List String := []
  gl : List String := []
  me : List (String × String) := []
  ms : List String := []
  pr : List (String × String) := []
abbrev gaS (K : PySem.W.Frag) (x : String) : Addr := He.ga K (Str.ofString x)
abbrev maS (K : PySem.W.Frag) (c m : String) : Addr := He.ma K (gaS K c) (Str.ofString m)
/-- the getter of a property -/
def prS (K : PySem.W.Frag) (c m : String) : Addr := match PySem.W.recIn K (maS K c m) "property" with
  | some (.ref f :: _) => f
  | _ => 0
def eqI (a : Option (Option Value)) (b : Option (Option Value)) : Bool := decide (a = b)
def eqB (a : Option Bool) (b : Bool) : Bool := decide (a = some b)
def clsB (K : PySem.W.Frag) (c : String) : Bool := (He.Fa.cls (Str.ofString c)).ok K && (eqI (PySem.W.findIn K (.ref (gaS K c)) "__class__") (some (some (.builtin "object.__class__"))) && (eqI (PySem.W.specialIn K (.builtin "object.__class__") "__get__") (some (some (.builtin "getset_descriptor.__get__"))) && (eqB (PySem.W.takesIn K (.builtin "object.__class__")) true &&
  (eqB (PySem.W.mroIn K (gaS K c) (.type "object")) true && ((["int", "bool", "str", "list", "tuple", "dict"].all fun T => eqB (PySem.W.kitOne K (.ref (gaS K c)) (.type T)) false) && (["int", "bool", "str", "list", "tuple", "dict", "NoneType"].all fun T => eqB (PySem.W.kitOne K (.type T) (.ref (gaS K c))) false))))))
theorem clsB_ok {K : PySem.W.Frag} {c : String} (h : clsB K c = true) : ClsOk K (gaS K c) := by
  obtain ⟨h1, h⟩ := He.ba h
  obtain ⟨h2, h⟩ := He.ba h
  obtain ⟨h3, h⟩ := He.ba h
  obtain ⟨h4, h⟩ := He.ba h
  obtain ⟨h5, h⟩ := He.ba h
  obtain ⟨h6, h7⟩ := He.ba h
  exact ⟨He.cls_ok h1, of_decide_eq_true h2, of_decide_eq_true h3, of_decide_eq_true h4, of_decide_eq_true h5, fun T hT => of_decide_eq_true (List.all_eq_true.mp h6 T hT), fun T hT => of_decide_eq_true (List.all_eq_true.mp h7 T hT)⟩
/-- an own error over ValueError with an own __init__ -/
def oexB (K : PySem.W.Frag) (c : String) : Bool := (match K.lookup (gaS K c) with
  | some ⟨.type "type", _, .cls cd, sl⟩ => (match cd.mro, sl.toList with
    | .ref C' :: bm, [_, _, _, _, some (.builtin n), _] => C' == gaS K c && (n == "ValueError.__new__" && (!cd.hasDel && (cd.hasDict && PySem.HandSPX.refsVE bm)))
    | _, _ => false)
  | _ => false) && (eqI (PySem.W.findIn K (.ref (gaS K c)) "__setattr__") (some (some (.builtin "object.__setattr__"))) && (eqB (PySem.W.subIn K (.ref (gaS K c)) (.type "BaseException")) true && (decide (PySem.W.typeIn K (.ref (gaS K c)) = some (.type "type")) && (PySem.W.keepIn K (.ref (gaS K c)) &&
  (xfB K (gaS K c) && (eqI (PySem.W.findIn K (.ref (gaS K c)) "__init__") (some (some (.ref (maS K c "__init__")))) && decide (PySem.W.typeIn K (.ref (maS K c "__init__")) = some (.type "function"))))))))
structure Oex (K : PySem.W.Frag) (c : String) : Prop where
  oex : OexC K (gaS K c)
  xf : XfC K (gaS K c)
  iC : PySem.W.findIn K (.ref (gaS K c)) "__init__" = some (some (.ref (maS K c "__init__")))
  tI : PySem.W.typeIn K (.ref (maS K c "__init__")) = some (.type "function")
theorem oexB_ok {K : PySem.W.Frag} {c : String} (h : oexB K c = true) : Oex K c := by
  obtain ⟨h1, h⟩ := He.ba h
  obtain ⟨h2, h⟩ := He.ba h
  obtain ⟨h3, h⟩ := He.ba h
  obtain ⟨h4, h⟩ := He.ba h
  obtain ⟨h5, h⟩ := He.ba h
  obtain ⟨h6, h⟩ := He.ba h
  obtain ⟨h7, h8⟩ := He.ba h
  refine ⟨⟨?_, of_decide_eq_true h2, of_decide_eq_true h3, of_decide_eq_true h4, h5⟩, xfB_ok h6, of_decide_eq_true h7, of_decide_eq_true h8⟩
  split at h1
  · rename_i dd cd sl ho
    split at h1
    · rename_i C' bm k0 k1 k2 k3 n k5 hm hs
      simp only [Bool.and_eq_true, beq_iff_eq, Bool.not_eq_true'] at h1
      obtain ⟨rfl, rfl, hdel, hdct, ht⟩ := h1
      obtain ⟨nm, bs, mro, ns, qn, hd, sn, sub, ab, col, del⟩ := cd
      dsimp only at hm hdel hdct
      subst hm hdel hdct
      have hsl : sl = #[k0, k1, k2, k3, some (.builtin "ValueError.__new__"), k5] := by
        obtain ⟨l⟩ := sl
        simp only at hs
        rw [hs]
      subst hsl
      exact ⟨nm, qn, ns, bs, bm, sn, sub, ab, col, dd, k0, k1, k2, k3, k5, ho, ht⟩
    · cases h1
  · cases h1
def Tab.ok (t : Tab) (K : PySem.W.Frag) : Bool := (t.cs.all (clsB K)) && ((t.cs.all fun c => t.cs.all fun e => eqB (PySem.W.kitOne K (.ref (gaS K c)) (.ref (gaS K e))) (decide (c = e))) && ((t.fl.all fun f => t.cs.all fun c => eqI (PySem.W.findIn K (.ref (gaS K c)) (Str.ofString f)) (some none)) &&
  ((t.xs.all (oexB K)) && ((t.xs.all fun c => t.xs.all fun e => eqB (PySem.W.exmOne K (.ref (gaS K c)) (.ref (gaS K e))) (decide (c = e))) && ((t.xf.all fun p => eqI (PySem.W.findIn K (.ref (gaS K p.1)) (Str.ofString p.2)) (some none)) &&
  ((t.bl.all fun x => eqI (PySem.W.nsIn K mainGlobals (Str.ofString x)) (some none)) && ((t.gl.all fun x => eqI (PySem.W.nsIn K mainGlobals (Str.ofString x)) (some (some (.ref (gaS K x))))) &&
  ((t.me.all fun p => (He.Fa.meth (Str.ofString p.1) (Str.ofString p.2)).ok K) && ((t.ms.all fun c => (He.Fa.mkr (Str.ofString c)).ok K) &&
  ((t.pr.all fun p => eqI (PySem.W.findIn K (.ref (gaS K p.1)) (Str.ofString p.2)) (some (some (.ref (maS K p.1 p.2)))) && (eqI (PySem.W.specialIn K (.ref (maS K p.1 p.2)) "__get__") (some (some (.builtin "property.__get__"))) && (eqB (PySem.W.takesIn K (.ref (maS K p.1 p.2))) true && (match PySem.W.recIn K (maS K p.1 p.2) "property" with | some (.ref _ :: _) => true | _ => false)))) &&
  (t.xs.isEmpty || (match PySem.W.findCls K (.type "ValueError") (.type "type") "__init__" with | some (.val (.builtin z)) => decide (z = "ValueError.__init__") | _ => false))))))))))))
section
variable {t : Tab} {K : PySem.W.Frag}
structure TabOk (t : Tab) (K : PySem.W.Frag) : Prop where
  cs : ∀ c ∈ t.cs, ClsOk K (gaS K c)
  kit : ∀ c ∈ t.cs, ∀ e ∈ t.cs, PySem.W.kitOne K (.ref (gaS K c)) (.ref (gaS K e)) = some (decide (c = e))
  fl : ∀ f ∈ t.fl, ∀ c ∈ t.cs, NoAttr K (gaS K c) (Str.ofString f)
  xs : ∀ c ∈ t.xs, Oex K c
  xm : ∀ c ∈ t.xs, ∀ e ∈ t.xs, PySem.W.exmOne K (.ref (gaS K c)) (.ref (gaS K e)) = some (decide (c = e))
  xf : ∀ p ∈ t.xf, PySem.W.findIn K (.ref (gaS K p.1)) (Str.ofString p.2) = some none
  bl : ∀ x ∈ t.bl, PySem.W.nsIn K mainGlobals (Str.ofString x) = some none
  gl : ∀ x ∈ t.gl, PySem.W.nsIn K mainGlobals (Str.ofString x) = some (some (.ref (gaS K x)))
  me : ∀ p ∈ t.me, Meth K (gaS K p.1) (Str.ofString p.2) (maS K p.1 p.2)
  ms : ∀ c ∈ t.ms, Mk K (gaS K c) (maS K c "__init__")
  pr : ∀ p ∈ t.pr, PropOf K (gaS K p.1) (Str.ofString p.2) (maS K p.1 p.2) (prS K p.1 p.2)
  ve : t.xs ≠ [] → PySem.W.findCls K (.type "ValueError") (.type "type") "__init__" = some (.val (.builtin "ValueError.__init__"))
theorem Tab.ok_of (h : t.ok K = true) : TabOk t K := by
  obtain ⟨h1, h⟩ := He.ba h
  obtain ⟨h2, h⟩ := He.ba h
  obtain ⟨h3, h⟩ := He.ba h
  obtain ⟨h4, h⟩ := He.ba h
  obtain ⟨h5, h⟩ := He.ba h
  obtain ⟨h6, h⟩ := He.ba h
  obtain ⟨h7, h⟩ := He.ba h
  obtain ⟨h8, h⟩ := He.ba h
  obtain ⟨h9, h⟩ := He.ba h
  obtain ⟨h10, h⟩ := He.ba h
  obtain ⟨h11, h12⟩ := He.ba h
  refine ⟨fun c hc => clsB_ok (List.all_eq_true.mp h1 c hc), fun c hc e he => of_decide_eq_true (List.all_eq_true.mp (List.all_eq_true.mp h2 c hc) e he), fun f hf c hc => show PySem.W.findIn _ _ _ = _ from of_decide_eq_true (List.all_eq_true.mp (List.all_eq_true.mp h3 f hf) c hc),
    fun c hc => oexB_ok (List.all_eq_true.mp h4 c hc), fun c hc e he => of_decide_eq_true (List.all_eq_true.mp (List.all_eq_true.mp h5 c hc) e he), fun p hp => of_decide_eq_true (List.all_eq_true.mp h6 p hp), fun x hx => of_decide_eq_true (List.all_eq_true.mp h7 x hx), fun x hx => of_decide_eq_true (List.all_eq_true.mp h8 x hx),
    fun p hp => He.meth_ok (List.all_eq_true.mp h9 p hp), fun c hc => He.mkr_ok (List.all_eq_true.mp h10 c hc), fun p hp => ?_, fun ne => ?_⟩
  · obtain ⟨a, b⟩ := He.ba (List.all_eq_true.mp h11 p hp)
    obtain ⟨b, d⟩ := He.ba b
    obtain ⟨d, e⟩ := He.ba d
    refine ⟨of_decide_eq_true a, of_decide_eq_true b, of_decide_eq_true d, ?_⟩
    unfold prS
    cases z : PySem.W.recIn K (maS K p.1 p.2) "property" with
    | none => rw [z] at e; cases e
    | some l =>
      rw [z] at e
      match l, e with
      | .ref f :: rest, _ => exact ⟨rest, rfl⟩
  · rw [Bool.or_eq_true] at h12
    rcases h12 with z | z
    · exact absurd (List.isEmpty_iff.mp z) ne
    · split at z
      · rename_i q e
        rw [e, of_decide_eq_true z]
      · cases z
/-- what is static, of a table -/
def TabOk.G (T : TabOk t K) : Ga where
  K := K
  ca := gaS K
  cs := t.cs
  cok := T.cs
  kit := T.kit
  jv := fun _ _ _ => True
  jm := fun _ _ => trivial
  xs := t.xs
  xm := T.xm
end
theorem mem_ix {α : Type} {l : List α} {x : α} (i : Nat) (h : l[i]? = some x := by rfl) : x ∈ l := List.mem_of_getElem? h
/-- one def -/
structure Df where
  ad : PySem.W.Frag → Addr
  name : Str
  qual : Str
  params : Arguments
  body : List Stmt
  scope : Scope
  dfl : List V := []
def fnA (K : PySem.W.Frag) (a : Addr) : He.FnW := match K.lookup a with
  | some ⟨_, _, .func fd, _⟩ => some (fd.name, fd.qualname, fd.params, fd.body, fd.scope, fd.globals, fd.closure, fd.builtins)
  | _ => none
def Df.val (d : Df) : He.FnW := some (d.name, d.qual, d.params, .stmts d.body, d.scope, mainGlobals, [], builtinsNs)
def Df.ok (K : PySem.W.Frag) (d : Df) : Bool := PySem.W.keepIn K (.ref (d.ad K)) && (match K.lookup (d.ad K) with
  | some ⟨_, _, .func fd, _⟩ => PySem.W.codeIn K fd.code d.qual && He.dflB K fd.defaults d.dfl
  | _ => false)
theorem Df.funD {K : PySem.W.Frag} {d : Df} (e : fnA K (d.ad K) = d.val) (c : d.ok K = true) : ∃ fd, FunD K d.name d.qual d.params d.body d.scope d.dfl [] (d.ad K) fd := by
  obtain ⟨kp, c2⟩ := He.ba c
  unfold fnA at e
  cases q : K.lookup (d.ad K) with
  | none =>
    rw [q] at c2
    cases c2
  | some o =>
    obtain ⟨oc, od, dt, osl⟩ := o
    rw [q] at c2 e
    cases dt with
    | func fd =>
      obtain ⟨n1, n2, n3, n4, n5, n6, n7, n8, n9, n10, n11, n12, n13, n14, n15⟩ := fd
      have e2 : (some (n1, n2, n3, n4, n5, n6, n7, n15) : He.FnW) = some (d.name, d.qual, d.params, .stmts d.body, d.scope, mainGlobals, [], builtinsNs) := e
      simp only [Option.some.injEq, Prod.mk.injEq] at e2
      obtain ⟨h1, h2, h3, h4, h5, h6, h7, h8⟩ := e2
      subst h1 h2 h3 h4 h5 h6 h7 h8
      have c3 : (PySem.W.codeIn K n13 d.qual && He.dflB K n8 d.dfl) = true := c2
      obtain ⟨k1, k3⟩ := He.ba c3
      exact ⟨_, ⟨oc, od, n8, n9, n10, n11, n12, n13, n14, osl, rfl, q, k1, He.dflB_ok k3, .inl rfl⟩, kp⟩
    | _ => cases c2
def obsM (t : Tab) (ex : PySem.W.Frag → Bool) (fn : List Df) (K : PySem.W.Frag) : He.AlD := (t.ok K && (ex K && fn.all fun d => d.ok K), fn.map fun d => fnA K (d.ad K))
def valM (fn : List Df) : He.AlD := (true, fn.map Df.val)
def SaysM (t : Tab) (ex : PySem.W.Frag → Bool) (fn : List Df) (K : PySem.W.Frag) : Prop := obsM t ex fn K = valM fn
def obsMG (n : Nat) (t : Tab) (ex : PySem.W.Frag → Bool) (fn : List Df) (g : Addr → Option Obj) : He.AlD := obsM t ex fn (He.frG g (He.asD g n))
def hookM (n : Nat) (t : Tab) (ex : PySem.W.Frag → Bool) (fn : List Df) : PySem.W.Hook where
  α := He.AlD
  obs := fun s => obsMG n t ex fn s.heap.get?
  val := fun _ => valM fn
  says := fun _ h => ∃ K : PySem.W.Frag, K.In h ∧ SaysM t ex fn K
  of := fun _ _ e => ⟨_, He.frG_in, e⟩
  keeps := fun _ _ _ ⟨K, hK, c⟩ k => ⟨K, PySem.W.Frag.In.keeps hK k, c⟩
theorem obsMG_eq {n : Nat} {t : Tab} {ex : PySem.W.Frag → Bool} {fn : List Df} {g : Addr → Option Obj} {s : Shared} (h : ∀ a, g a = s.heap.get? a) : obsMG n t ex fn g = (hookM n t ex fn).obs s := by
  have e : g = s.heap.get? := funext h
  rw [e] <;> rfl
section
variable {t : Tab} {ex : PySem.W.Frag → Bool} {fn : List Df} {K : PySem.W.Frag}
theorem SaysM.tab (c : SaysM t ex fn K) : TabOk t K := Tab.ok_of (He.ba (show (t.ok K && (ex K && fn.all fun d => d.ok K)) = true from congrArg (fun z : He.AlD => z.1) c)).1
theorem SaysM.ext (c : SaysM t ex fn K) : ex K = true := (He.ba (He.ba (show (t.ok K && (ex K && fn.all fun d => d.ok K)) = true from congrArg (fun z : He.AlD => z.1) c)).2).1
theorem SaysM.def_ (c : SaysM t ex fn K) (i : Nat) {d : Df} (h : fn[i]? = some d := by rfl) : ∃ fd, FunD K d.name d.qual d.params d.body d.scope d.dfl [] (d.ad K) fd := by
  have c2 := (He.ba (He.ba (show (t.ok K && (ex K && fn.all fun d => d.ok K)) = true from congrArg (fun z : He.AlD => z.1) c)).2).2
  have e : fn.map (fun d => fnA K (d.ad K)) = fn.map Df.val := congrArg (fun z : He.AlD => z.2) c
  have e2 : (fn.map fun d => fnA K (d.ad K))[i]? = (fn.map Df.val)[i]? := by rw [e]
  rw [List.getElem?_map, List.getElem?_map, h] at e2
  exact Df.funD (Option.some.inj e2) (List.all_eq_true.mp c2 d (List.mem_of_getElem? h))
end
/-- a table with its module's names -/
structure Tx (t : Tab) (ex : PySem.W.Frag → Bool) (fn : List Df) (K : PySem.W.Frag) (mg : Str → Option Value) : Prop where
  c : SaysM t ex fn K
  g : ∀ x o, PySem.W.nsIn K mainGlobals x = some o → mg x = o
section
variable {t : Tab} {ex : PySem.W.Frag → Bool} {fn : List Df} {K : PySem.W.Frag} {mg : Str → Option Value}
theorem Tx.tab (T : Tx t ex fn K mg) : TabOk t K := T.c.tab
abbrev Tx.G (T : Tx t ex fn K mg) : Ga := T.tab.G
theorem Tx.bl (T : Tx t ex fn K mg) {x : String} (i : Nat) (h : t.bl[i]? = some x := by rfl) : mg (Str.ofString x) = none := T.g _ _ (T.tab.bl x (mem_ix i h))
theorem Tx.gl (T : Tx t ex fn K mg) {x : String} (i : Nat) (h : t.gl[i]? = some x := by rfl) : mg (Str.ofString x) = some (.ref (gaS K x)) := T.g _ _ (T.tab.gl x (mem_ix i h))
theorem Tx.fl (T : Tx t ex fn K mg) {x : String} (i : Nat) (h : t.fl[i]? = some x := by rfl) : NoAt T.G x := fun c hc => T.tab.fl x (mem_ix i h) c hc
theorem Tx.stb (T : Tx t ex fn K mg) : T.G.Stb := fun _ _ _ _ _ _ => trivial
theorem Tx.jv (T : Tx t ex fn K mg) : ∀ F ad σ, T.G.jv F ad σ := fun _ _ _ => trivial
end
/-! ### the end -/
theorem walk_ofM {l : PySem.W.OpenLaw} {n k : Nat} {q : Program} {loose : List Str} {XP : (Str → Option Value) → Heap → Prop} {YP : World → Heap → Prop} {d : DefRec} {x : Str}
    (hn : l.most = some n) (hn2 : n ≤ sizeLine) (hdf : d.params.defaults = []) (hr : Room k callerA)
    (F : ∀ (w : World) (mg : Str → Option Value) (fa : Addr) (h : Heap), YP w h → h.Ns mainGlobals mg → mg d.name = some (.ref fa) →
      ∃ (K : PySem.W.Frag) (fd : FuncData) (sp : Sp), K.In h ∧ (∀ (s : Shared) (u : Value), BindsTo s fd ⟨[u], []⟩ [(x, u)]) ∧
        (∀ (H : Hp) (a : Addr) (ns : List Int), ns.length ≤ n → Only H → SqL K H a (ns.map V.int) → sp [.ref a] H (fun v _ => v = .bl true) fun _ _ _ => False) ∧
        ∀ base : Heap, K.In base → base.Ns mainGlobals mg → FnOk l.prog w K mg base (L2.CX l.prog w) k fa fd [x] sp) :
    PySem.W.WalkO q loose XP YP l.row.toRowW d [] (fun f vs => PySem.call f vs) := by
  refine Att.attach_call hn hdf fun w s₀ s₁ mg mb fa o pm cd doc a vs ns G Y ho hd hcd hmg hobj hints hlen hg => ?_
  obtain ⟨K, fd, sp, KX, hb, hsp, hF⟩ := F w mg fa _ Y G.T.g hmg
  refine law_call KX G.T.g G.T.b G.T.builtins G.T.nolimit hg hobj hints (Nat.le_trans hlen hn2) hr hF hb (fun H hO hS => hsp H a ns hlen hO hS) fun H e s' z => ?_
  obtain ⟨_, _, _, _, _, _, _, _, _, _, _, _, z⟩ := z
  exact z.elim
theorem sp_law {G : Ga} {m : MF} {H : Hp} {a : Addr} {ns : List Int} (hS : SqL G.K H a (ns.map V.int)) (h : ∃ st, m [.d (.lck ns)] [] = .ok (.d (.bl true)) st) : spM G m [.ref a] H (fun v _ => v = .bl true) fun _ _ _ => False := by
  obtain ⟨st, e⟩ := h
  refine ⟨H, [], [], [.d (.lck ns)], ⟨Same.refl _, rfl, List.nodup_nil, fun _ h => (by simp at h), fun n a o h _ => (by simp at h)⟩, .cons (.lck hS) .nil, ?_⟩
  rw [e]
  intro H' F' ad' _ _ v r
  cases r
  rfl

section
variable {G : Ga} {W : L2.WX} {X : Cx}
@[simp] theorem withD_nil (f : MF) : withD [] f = f := by
  funext ds st
  show f (ds ++ []) st = _
  rw [List.append_nil]
/-! a < b < c -/
def mChain (f f' : O2) (a b c : ME) : ME := fun ρ st => (a ρ st).bind fun x st => (b ρ st).bind fun y st => (f x y st).bind fun z st => match z with
  | .d (.bl true) => (c ρ st).bind fun w st => f' y w st
  | .d (.bl false) => .ok (.d (.bl false)) st
  | _ => .bad
theorem sim_chain {r r' : R2} {f f' : O2} {ta tb tc : TE} {ma mb mc : ME} (hr : SimR2 G r f) (hr' : SimR2 G r' f') (ha : SimE G W ta ma) (hb : SimE G W tb mb) (hc : SimE G W tc mc) : SimE G W (tChain r r' ta tb tc) (mChain f f' ma mb mc) := by
  intro σ ρ H F ad st Q R S h
  refine simE_bind ha R S h fun x v st1 H1 F1 ad1 _ R1 S1 rv h1 => ?_
  refine simE_bind hb R1 S1 h1 fun y w st2 H2 F2 ad2 e2 R2 S2 rw h2 => ?_
  refine hr (fun c d H' => W c d σ H') v w x y H2 F2 ad2 st2 _ (rv.ext e2) rw S2 ?_
  have h3 := Po.bind h2
  revert h3
  generalize f x y st2 = o
  intro h3
  cases o with
  | bad => exact h3
  | er c fs st3 => exact h3
  | ok z st3 =>
    intro H3 F3 ad3 e3 S3 u ru
    have h4 := h3 H3 F3 ad3 e3 S3
    cases z with
    | ref n => exact h4.elim
    | d z => cases z with
      | bl b =>
        cases ru
        refine ⟨b, rfl, ?_⟩
        cases b with
        | true =>
          rw [if_pos rfl]
          exact simE_bind hc (R2.ext e3) S3 h4 fun q t st4 H4 F4 ad4 e4 R4 S4 rt h5 => hr' _ w t y q H4 F4 ad4 st4 Q ((rw.ext e3).ext e4) rt S4 h5
        | false =>
          rw [if_neg Bool.false_ne_true]
          exact fin_same S3 h4 _ (.bl _)
      | _ => exact h4.elim
theorem de_chain {op op' : CmpOp} {r r' : R2} {f f' : O2} {a b c : Expr} {pos : Pos} {ma mb mc : ME} (ho : OpR X (compareOp op) r) (ho' : OpR X (compareOp op') r') (hr : SimR2 G r f) (hr' : SimR2 G r' f') (ha : DE G W X a ma) (hb : DE G W X b mb) (hc : DE G W X c mc) (hm : lastMarks [op, op'] [b, c] = false := by with_unfolding_all rfl) : DE G W X (.Compare a [op, op'] [b, c] pos) (mChain f f' ma mb mc) := by
  obtain ⟨ta, pa, sa⟩ := ha
  obtain ⟨tb, pb, sb⟩ := hb
  obtain ⟨tc, pc, sc⟩ := hc
  exact ⟨_, pe_chain ho ho' pa pb pc hm, sim_chain hr hr' sa sb sc⟩
theorem dt_chain {op op' : CmpOp} {r r' : R2} {f f' : O2} {a b c : Expr} {pos : Pos} {ma mb mc : ME} (hp : ∀ {ta tb tc : TE}, PE X a ta → PE X b tb → PE X c tc → PT X (.Compare a [op, op'] [b, c] pos) (tTest (tChain r r' ta tb tc))) (hr : SimR2 G r f) (hr' : SimR2 G r' f') (ha : DE G W X a ma) (hb : DE G W X b mb) (hc : DE G W X c mc) : DT G W X (.Compare a [op, op'] [b, c] pos) (mTst (mChain f f' ma mb mc)) := by
  obtain ⟨ta, pa, sa⟩ := ha
  obtain ⟨tb, pb, sb⟩ := hb
  obtain ⟨tc, pc, sc⟩ := hc
  exact ⟨_, hp pa pb pc, sim_tst (sim_chain hr hr' sa sb sc)⟩
/-! xs.extend(ys), ys a list or a tuple -/
theorem ext_tup (l : Addr) (items : Array Value) (n : Nat) (b : Addr) (items2 : Array Value) (n2 : Nat) (od : Option Addr) (sl : Array (Option Value)) (hs0 : ¬(!items.isEmpty && Builtin.List.listTooLong (items.size + items2.size)) = true) (hs1 : items.size ≤ sizeLine) (hs2 : items.size + items2.size ≤ sizeLine + 1) :
    Meets (Builtin.«list.extend» ⟨[.ref l, .ref b], []⟩) (fun _ R s => s.heap.get? l = some { cls := .type "list", dict := none, data := .seq items n, slots := #[] } ∧ s.heap.get? b = some { cls := .type "tuple", dict := od, data := .seq items2 n2, slots := sl } ∧ R (.ok (.ret Value.none)) { s with heap := s.heap.update l (Obj.mapSeq fun x => x ++ items2), toks := s.toks }) :=
  .of_wp fun prog w A R s h => by
    obtain ⟨hp, g, d, tk, os⟩ := s
    obtain ⟨hl, hb, h⟩ := h
    have f1 := AutoSeq1.idx_int
    have f2 := AutoSeq1.sub_tuple_tuple
    have f3 := AutoSeq1.sub_list_list
    have f4 := AutoSeq1.sub_tuple_list
    have f5 := AutoSeq1.sub_list_tuple
    have hz' : (items ++ items2).size ≤ sizeLine + 1 := by rw [Array.size_append]; exact hs2
    wp_walk using (wpAny_updateSeq hl rfl (hz := hs1) (_hz' := hz')), wpAny_loadPart' hl, wpAny_loadPart' hb
    exact ⟨_, rfl, h⟩
def rExtendA (K : PySem.W.Frag) : V → List V → Hp → VK → Prop := fun x vs H Q => ∃ l b xs zs, x = .ref l ∧ vs = [.ref b] ∧ H l = some (.lst xs) ∧ (H b = some (.lst zs) ∨ SqT K H b zs) ∧ xs.length + zs.length ≤ sizeLine ∧ Q .non (upd H l (.lst (xs ++ zs)))
theorem mt_extendA : MtM X "list.extend" (rExtendA X.K) := by
  intro pins s σ H x vs v us Q I rx rv h
  obtain ⟨l, b, xs, zs, rfl, rfl, hH, hB | hB, hz, q⟩ := h
  · exact mt_extend pins s σ H _ _ v us Q I rx rv ⟨l, b, xs, zs, rfl, rfl, hH, hB, hz, q⟩
  · cases rx
    obtain ⟨u, rfl, ru⟩ := rv.one
    cases ru
    obtain ⟨z, its, n, r, hl, e⟩ := I.lstM hH
    obtain ⟨its2, r2, p2, _⟩ := I.tuple hB
    obtain ⟨o2, g2, c2, n2, d2⟩ := p2
    have hl2 := r2.length
    have hsz : its.toArray.size + its2.toArray.size ≤ sizeLine := by rw [List.size_toArray, List.size_toArray]; omega
    have hlong : ¬ (!its.toArray.isEmpty && Builtin.List.listTooLong (its.toArray.size + its2.toArray.size)) = true := by
      rw [notLongL hsz, Bool.and_false]
      exact Bool.false_ne_true
    obtain ⟨oc, od, dt, sl⟩ := o2
    simp only at c2 d2
    subst c2 d2
    refine call_meets F.slot_list_extend ⟨_, e, rfl⟩ F.entry_list_extend (F.args_list_extend_2 _ _)
      (ext_tup l its.toArray n b its2.toArray n2 od sl hlong (by rw [List.size_toArray]; omega) (by omega)) ⟨e, g2, ?_⟩
    refine ⟨.non, _, I.lset (its' := its ++ its2) hH e (by simp) (r.append r2) ?_, rfl, q⟩
    rw [List.length_append]
    omega
def seqD : Va → Option (List D)
  | .d (.lst ys) => some ys
  | .d (.tup ys) => some ys
  | _ => none
def oExtend : OM
  | .ref n, [y], st => match st[n]?, seqD y with
    | some (.lst xs), some ys => if xs.length + ys.length ≤ cap then .ok (.d .non) (st.set n (.lst (xs ++ ys.map Va.d))) else .bad
    | _, _ => .bad
  | _, _, _ => .bad
theorem sim_extend : SimM G (rExtendA G.K) oExtend := by
  intro Wv x dx vs ds H F ad st Q rx rv S h
  cases dx with
  | d x => cases ds with
    | nil => exact h.elim
    | cons d ds => cases ds <;> exact h.elim
  | ref n =>
    cases rv with
    | nil => exact h.elim
    | @cons v y _ _ r t => cases t with
      | cons _ _ => exact h.elim
      | nil =>
        obtain ⟨a, ha, rfl⟩ := rx
        replace h : Po G Wv H F ad (QV G Q) (match st[n]?, seqD y with
          | some (.lst xs), some ys => if xs.length + ys.length ≤ cap then .ok (.d .non) (st.set n (.lst (xs ++ ys.map Va.d))) else .bad
          | _, _ => .bad) := h
        cases z : st[n]? with
        | none => rw [z] at h; exact h.elim
        | some ob =>
          rw [z] at h
          cases ob with
          | lst xs =>
            obtain ⟨ws, q1, q2⟩ := S.get ha z
            have key : ∀ (b : Addr) (us : List V) (es : List D), v = .ref b → (H b = some (.lst us) ∨ SqT G.K H b us) → Reps G F us es → Po G Wv H F ad (QV G Q) (if xs.length + es.length ≤ cap then .ok (.d .non) (st.set n (.lst (xs ++ es.map Va.d))) else .bad) → rExtendA G.K (.ref a) [v] H Q := by
              intro b us es e hb t1 h
              subst e
              split at h
              · rename_i hc
                refine ⟨a, b, ws, us, rfl, rfl, q1, hb, by rw [Paired.length q2, t1.length]; exact cap_ok hc, ?_⟩
                have E := ext_mut (o := .lst (ws ++ us)) S ha
                exact h _ _ _ E (S.mut (m := .lst (xs ++ es.map Va.d)) ha ⟨_, upd_same, Paired.append q2 t1.va⟩) _ .non
              · exact h.elim
            cases y with
            | ref _ => exact h.elim
            | d y => cases r with
              | @lst b us es g1 t1 => exact key b us es rfl (.inl (S.sub _ _ g1)) t1 h
              | @tup b us es g1 t1 => exact key b us es rfl (.inr (sqT_same S.sub g1)) t1 h
              | _ => exact h.elim
          | _ => exact h.elim
theorem mt_extend' (hK : X.K = G.K) : MtM X "list.extend" (rExtendA G.K) := by rw [← hK]; exact mt_extendA
end
theorem fund_ok0 {P : Program} {w : World} {K : PySem.W.Frag} {mg : Str → Option Value} {base : Heap} {x qual : Str} {params : Arguments} {body : List Stmt} {scope : Scope} {dvs : List V} {kws : List (Str × V)} {f : Addr} {fd : FuncData} {N ps : List Str} {k : Nat} {sp : Sp} (F : FunD K x qual params body scope dvs kws f fd) (S : FnScope N ps scope) (len : ∀ vs H Q E, sp vs H Q E → vs.length = ps.length)
    (hbody : ∀ (cdv : Value) (A : Around) (outer : List Env) (s : Shared) (H : Hp) (vs : List V) (Q : VK) (E : XK), Room k (A.deeper (PyProof.Rows.envOfC qual scope s.heap.objs.size f cdv)) → sp vs H Q E →
      ∃ t, PSs (cxOf CX0 P w K mg base N qual scope f cdv A outer s H E).nox body t ∧ t { nx := fun _ H' => Q .non H', rt := Q } (L2.start N vs) H) : FnOk P w K mg base CX0 (k + 1) f fd ps sp :=
  F.ok S len fun cdv A outer s H vs Q E hr h => by
    obtain ⟨t, h1, h2⟩ := hbody cdv A outer s H vs Q E hr h
    exact ⟨t, h1.nox, h2⟩

section
variable {G : Ga} {W : L2.WX} {X : Cx}
/-- a way that is not gone -/
def mBad : MS := fun _ _ => .bad
theorem ds_never {s : Stmt} (h : PS X s tNever) : DS G W X s mBad := ⟨_, h, fun σ ρ H F ad st D R S h => h.elim⟩
/-! from here on the thing in slot i is known to be itself -/
def isRefD : D → Bool
  | .lst _ => true
  | .tup _ => true
  | .obj _ _ => true
  | _ => false
def isFlatD : D → Bool
  | .non => true
  | .bl _ => true
  | .int _ => true
  | .str _ => true
  | _ => false
open Classical in
noncomputable def mId (i : Nat) (b : MS) : MS := fun ρ st => match ρ[i]? with
  | some (some (.d x)) => if isRefD x = true then (if h : ∃ r, ∀ a, b (ρ.set i (some (.d (.idn x a)))) st = r then h.choose else .bad)
    else if isFlatD x = true then b ρ st else .bad
  | _ => .bad
theorem mId_eq {i : Nat} {b : MS} {ρ : Ev} {st : Sto} {x : D} {r : Out} (h1 : ρ[i]? = some (some (.d x))) (hx : isRefD x = true) (h : ∀ a, b (ρ.set i (some (.d (.idn x a)))) st = r) : mId i b ρ st = r := by
  have q : ∃ r, ∀ a, b (ρ.set i (some (.d (.idn x a)))) st = r := ⟨r, h⟩
  unfold mId
  rw [h1]
  simp only [hx, if_true, dif_pos q]
  rw [← q.choose_spec 0, h 0]
theorem mId_flat {i : Nat} {b : MS} {ρ : Ev} {st : Sto} {x : D} (h1 : ρ[i]? = some (some (.d x))) (hx : isFlatD x = true) : mId i b ρ st = b ρ st := by
  unfold mId
  rw [h1]
  cases x <;> first | rfl | cases hx
theorem dss_id {i : Nat} {ss : List Stmt} {m : MS} (h : DSs G W X ss m) : DSs G W X ss (mId i m) := by
  obtain ⟨t, p, s⟩ := h
  refine ⟨t, p, ?_⟩
  intro σ ρ H F ad st D R S h
  unfold mId at h
  split at h
  · rename_i x e
    obtain ⟨v, h1, h2⟩ := R.at_ i _ e
    split at h
    · rename_i hx
      split at h
      · rename_i hc
        have hr : ∃ a, v = .ref a := by
          cases x <;> first | (cases hx) | skip
          all_goals (cases h2; exact ⟨_, rfl⟩)
        obtain ⟨a, rfl⟩ := hr
        rw [← hc.choose_spec a] at h
        refine s σ _ H F ad st D ⟨by rw [List.length_set]; exact R.len, fun j d ej => ?_, R.j⟩ S h
        by_cases q : i = j
        · subst q
          rw [List.getElem?_set_self (List.getElem?_eq_some_iff.mp e).1] at ej
          cases ej
          exact ⟨_, h1, .idn h2⟩
        · rw [List.getElem?_set_ne q] at ej
          exact R.at_ j d ej
      · exact h.elim
    · split at h
      · exact s σ ρ H F ad st D R S h
      · exact h.elim
  · exact h.elim
end

/-! M13: mirrors worked out -/
theorem Res.bind_ok {α β : Type} (a : α) (st : Sto) (f : α → Sto → Res β) : (Res.ok a st).bind f = f a st := rfl
theorem Res.bind_er {α β : Type} (c : String) (fs : List (String × Va)) (st : Sto) (f : α → Sto → Res β) : (Res.er c fs st : Res α).bind f = .er c fs st := rfl
theorem Res.bind_bad {α β : Type} (f : α → Sto → Res β) : (Res.bad : Res α).bind f = .bad := rfl
theorem mVar_0 (x : Va) (ρ : Ev) (st : Sto) : mVar 0 (some x :: ρ) st = .ok (strip x) st := rfl
theorem mVar_s (n : Nat) (x : Option Va) (ρ : Ev) (st : Sto) : mVar (n + 1) (x :: ρ) st = mVar n ρ st := rfl
theorem mVarI_0 (x : Va) (ρ : Ev) (st : Sto) : mVarI 0 (some x :: ρ) st = .ok x st := rfl
theorem mVarI_s (n : Nat) (x : Option Va) (ρ : Ev) (st : Sto) : mVarI (n + 1) (x :: ρ) st = mVarI n ρ st := rfl
theorem strip_ref (n : Nat) : strip (.ref n) = .ref n := rfl
theorem strip_non : strip (.d .non) = .d .non := rfl
theorem strip_bl (b : Bool) : strip (.d (.bl b)) = .d (.bl b) := rfl
theorem strip_int (b : Int) : strip (.d (.int b)) = .d (.int b) := rfl
theorem strip_str (b : Str) : strip (.d (.str b)) = .d (.str b) := rfl
theorem strip_lst (b : List D) : strip (.d (.lst b)) = .d (.lst b) := rfl
theorem strip_tup (b : List D) : strip (.d (.tup b)) = .d (.tup b) := rfl
theorem strip_obj (c : String) (b : List (String × D)) : strip (.d (.obj c b)) = .d (.obj c b) := rfl
theorem strip_lck (b : List Int) : strip (.d (.lck b)) = .d (.lck b) := rfl
theorem strip_idn (x : D) (a : Addr) : strip (.d (.idn x a)) = .d x := rfl
theorem mFun_eq (n ns : Nat) (b : MS) (ds : List Va) (st : Sto) (h : ds.length = n) : mFun n ns b ds st = (match b (ds.map some ++ List.replicate (ns - n) none) st with
  | .nx _ st => .ok (.d .non) st
  | .rt v st => .ok v st
  | .er c fs _ st => .er c fs st
  | _ => .bad) := if_pos h
def retO : Out → Res Va
  | .nx _ st => .ok (.d .non) st
  | .rt v st => .ok v st
  | .er c fs _ st => .er c fs st
  | _ => .bad
theorem mFun_eq' (n ns : Nat) (b : MS) (ds : List Va) (st : Sto) (h : ds.length = n) : mFun n ns b ds st = retO (b (ds.map some ++ List.replicate (ns - n) none) st) := by
  rw [mFun_eq _ _ _ _ _ h]
  cases b (ds.map some ++ List.replicate (ns - n) none) st <;> rfl
theorem outE_ok (v : Va) (st : Sto) (ρ : Ev) (k : Va → Sto → Out) : outE (.ok v st) ρ k = k v st := rfl
theorem outT_ok (v : Bool) (st : Sto) (ρ : Ev) (k : Bool → Sto → Out) : outT (.ok v st) ρ k = k v st := rfl
theorem outE_er (c : String) (fs : List (String × Va)) (st : Sto) (ρ : Ev) (k : Va → Sto → Out) : outE (.er c fs st) ρ k = .er c fs ρ st := rfl
def seqO (o : Out) (b : MS) : Out := match o with
  | .nx ρ st => b ρ st
  | o => o
theorem mSeq_eq (a b : MS) (ρ : Ev) (st : Sto) : mSeq a b ρ st = seqO (a ρ st) b := by
  unfold mSeq seqO
  cases a ρ st <;> rfl
theorem seqO_nx (ρ : Ev) (st : Sto) (b : MS) : seqO (.nx ρ st) b = b ρ st := rfl
theorem seqO_rt (v : Va) (st : Sto) (b : MS) : seqO (.rt v st) b = .rt v st := rfl
theorem seqO_er (c : String) (fs : List (String × Va)) (ρ : Ev) (st : Sto) (b : MS) : seqO (.er c fs ρ st) b = .er c fs ρ st := rfl
theorem retO_rt (v : Va) (st : Sto) : retO (.rt v st) = .ok v st := rfl
theorem retO_nx (ρ : Ev) (st : Sto) : retO (.nx ρ st) = .ok (.d .non) st := rfl
theorem retO_er (c : String) (fs : List (String × Va)) (ρ : Ev) (st : Sto) : retO (.er c fs ρ st) = .er c fs st := rfl
theorem seqO_ite (c : Prop) [Decidable c] (x y : Out) (b : MS) : seqO (if c then x else y) b = if c then seqO x b else seqO y b := by split <;> rfl
theorem retO_ite (c : Prop) [Decidable c] (x y : Out) : retO (if c then x else y) = if c then retO x else retO y := by split <;> rfl
theorem bind_ite {α β : Type} (c : Prop) [Decidable c] (x y : Res α) (f : α → Sto → Res β) : (if c then x else y).bind f = if c then x.bind f else y.bind f := by split <;> rfl
theorem outE_ite (c : Prop) [Decidable c] (x y : Res Va) (ρ : Ev) (k : Va → Sto → Out) : outE (if c then x else y) ρ k = if c then outE x ρ k else outE y ρ k := by split <;> rfl
theorem outT_ite (c : Prop) [Decidable c] (x y : Res Bool) (ρ : Ev) (k : Bool → Sto → Out) : outT (if c then x else y) ρ k = if c then outT x ρ k else outT y ρ k := by split <;> rfl
theorem fdiv_ok {i j : Int} (st : Sto) (h : CDivX i j) : oFdiv (.d (.int i)) (.d (.int j)) st = .ok (.d (.int (i.fdiv j))) st := if_pos h
theorem mod_ok {i j : Int} (st : Sto) (h : j ≠ 0) : oMod (.d (.int i)) (.d (.int j)) st = .ok (.d (.int (i.fmod j))) st := if_pos h
theorem mul_ok {i j : Int} (st : Sto) (h : CMulW i j) : oMul (.d (.int i)) (.d (.int j)) st = .ok (.d (.int (i * j))) st := if_pos h
theorem add_ii (i j : Int) (st : Sto) : oAdd (.d (.int i)) (.d (.int j)) st = .ok (.d (.int (i + j))) st := rfl
theorem sub_ii (i j : Int) (st : Sto) : oSub (.d (.int i)) (.d (.int j)) st = .ok (.d (.int (i - j))) st := rfl
theorem lt_ii (i j : Int) (st : Sto) : oLt (.d (.int i)) (.d (.int j)) st = .ok (.d (.bl (decide (i < j)))) st := rfl
theorem le_ii (i j : Int) (st : Sto) : oLe (.d (.int i)) (.d (.int j)) st = .ok (.d (.bl (decide (i ≤ j)))) st := rfl
theorem gt_ii (i j : Int) (st : Sto) : oGt (.d (.int i)) (.d (.int j)) st = .ok (.d (.bl (decide (j < i)))) st := rfl
theorem ge_ii (i j : Int) (st : Sto) : oGe (.d (.int i)) (.d (.int j)) st = .ok (.d (.bl (decide (j ≤ i)))) st := rfl
theorem eq_ii (i j : Int) (st : Sto) : oEq (.d (.int i)) (.d (.int j)) st = .ok (.d (.bl (decide (i = j)))) st := rfl
theorem ne_ii (i j : Int) (st : Sto) : oNe (.d (.int i)) (.d (.int j)) st = .ok (.d (.bl (!decide (i = j)))) st := rfl
theorem ix_lst (xs : List D) (i : Int) (x : D) (st : Sto) (h : atI xs i = some x) : oIx (.d (.lst xs)) (.d (.int i)) st = .ok (.d x) st := by
  unfold oIx
  simp only [h]
theorem ix_tup (xs : List D) (i : Int) (x : D) (st : Sto) (h : atI xs i = some x) : oIx (.d (.tup xs)) (.d (.int i)) st = .ok (.d x) st := by
  unfold oIx
  simp only [h]
theorem ix_lck (xs : List Int) (i : Int) (x : Int) (st : Sto) (h : atI xs i = some x) : oIx (.d (.lck xs)) (.d (.int i)) st = .ok (.d (.int x)) st := by
  unfold oIx
  simp only [h]
theorem ix_ref (n : Nat) (xs : List Va) (i : Int) (x : Va) (st : Sto) (h0 : st[n]? = some (.lst xs)) (h : atI xs i = some x) : oIx (.ref n) (.d (.int i)) st = .ok x st := by
  unfold oIx
  simp only [h0, h]
/-- the value of a def that knows nothing of our cells -/
theorem pureF_d {f : MF} {ds : List Va} {es : List D} {st st1 : Sto} {x : D} (h0 : ds? ds = some es) (h : f ds [] = .ok (.d x) st1) : pureF f ds st = .ok (.d x) st := by
  unfold pureF
  rw [h0, h]
  simp only [rsv_d]
theorem pureF_e {f : MF} {ds : List Va} {es : List D} {st st1 : Sto} {c : String} {fs gs : List (String × Va)} (h0 : ds? ds = some es) (h : f ds [] = .er c fs st1) (hr : rsvF st1 (st1.length + 1) fs = some gs) : pureF f ds st = .er c gs st := by
  unfold pureF
  rw [h0, h]
  simp only [hr]
theorem pureF_r {f : MF} {ds : List Va} {es : List D} {st st1 : Sto} {v : Va} {x : D} (h0 : ds? ds = some es) (h : f ds [] = .ok v st1) (hr : rsv st1 (st1.length + 1) v = some x) : pureF f ds st = .ok (.d x) st := by
  unfold pureF
  rw [h0, h]
  simp only [hr]
/-! lists that are made item by item -/
theorem compM_map {α : Type} {g : α → Va} {f : α → Va} {tg : MG} {te : ME} {ρ0 : Ev} {st : Sto} : ∀ {l : List α}, (∀ x ∈ l, ∃ ρ1, tg (g x) ρ0 = some ρ1 ∧ te ρ1 st = .ok (f x) st) → compM none tg mYes te ρ0 (l.map g) st = .ok (l.map f) st
  | [], _ => by
    rw [List.map_nil]
    unfold compM
    rw [if_pos (show gOk none st from trivial)]
    rfl
  | x :: l, h => by
    obtain ⟨ρ1, h1, h2⟩ := h x (List.mem_cons_self ..)
    rw [List.map_cons]
    unfold compM
    rw [if_pos (show gOk none st from trivial), h1]
    simp only [mYes, noEr, Res.bind_ok, if_true, h2]
    rw [compM_map fun y hy => h y (List.mem_cons_of_mem _ hy)]
    rfl
theorem mLc_map {α : Type} (l : List α) (g : α → Va) (f : α → D) {own : List Nat} {mi : MI} {tg : MG} {te : ME} {ρ : Ev} {st st1 : Sto} (h : mi ρ st = .ok ⟨l.map g, none⟩ st1) (hl : l.length ≤ cap)
    (he : ∀ x ∈ l, ∃ ρ1, tg (g x) (wipeE ρ own) = some ρ1 ∧ te ρ1 st1 = .ok (.d (f x)) st1) : mLc own mi tg mYes te ρ st = .ok (.d (.lst (l.map f))) st1 := by
  unfold mLc mLcG
  rw [h]
  simp only [Res.bind_ok, List.length_map, if_pos hl]
  rw [compM_map (f := fun x => Va.d (f x)) he]
  simp only [Res.bind_ok]
  rw [show l.map (fun x => Va.d (f x)) = (l.map f).map Va.d by rw [List.map_map]; rfl, ds?_map]
theorem compM_inv {I : Sto → Prop} {R : D → Prop} {tg : MG} {te : ME} {ρ0 : Ev} : ∀ {l : List Va} {st : Sto}, I st → (∀ x ∈ l, ∀ st, I st → ∃ ρ1 y st1, tg x ρ0 = some ρ1 ∧ te ρ1 st = .ok (.d y) st1 ∧ R y ∧ I st1) → ∃ (ds : List D) (st1 : Sto), compM none tg mYes te ρ0 l st = .ok (ds.map Va.d) st1 ∧ ds.length = l.length ∧ (∀ y ∈ ds, R y) ∧ I st1
  | [], st, hi, _ => ⟨[], st, by unfold compM; rw [if_pos (show gOk none st from trivial)]; rfl, rfl, fun y hy => (by cases hy), hi⟩
  | x :: l, st, hi, h => by
    obtain ⟨ρ1, y, st1, h1, h2, h3, h4⟩ := h x (List.mem_cons_self ..) st hi
    obtain ⟨ds, st2, h5, h6, h7, h8⟩ := compM_inv h4 fun z hz => h z (List.mem_cons_of_mem _ hz)
    refine ⟨y :: ds, st2, ?_, by rw [List.length_cons, List.length_cons, h6], ?_, h8⟩
    · unfold compM
      rw [if_pos (show gOk none st from trivial), h1]
      simp only [mYes, noEr, Res.bind_ok, if_true, h2, h5, List.map_cons]
    · intro z hz
      rcases List.mem_cons.mp hz with rfl | hz
      · exact h3
      · exact h7 z hz
theorem mLc_inv {I : Sto → Prop} {R : D → Prop} {own : List Nat} {mi : MI} {tg : MG} {te : ME} {ρ : Ev} {st st0 : Sto} {l : List Va} (h : mi ρ st = .ok ⟨l, none⟩ st0) (hl : l.length ≤ cap) (hi : I st0)
    (he : ∀ x ∈ l, ∀ st, I st → ∃ ρ1 y st1, tg x (wipeE ρ own) = some ρ1 ∧ te ρ1 st = .ok (.d y) st1 ∧ R y ∧ I st1) : ∃ (ds : List D) (st1 : Sto), mLc own mi tg mYes te ρ st = .ok (.d (.lst ds)) st1 ∧ ds.length = l.length ∧ (∀ y ∈ ds, R y) ∧ I st1 := by
  obtain ⟨ds, st1, h1, h2, h3, h4⟩ := compM_inv hi he
  refine ⟨ds, st1, ?_, h2, h3, h4⟩
  unfold mLc mLcG
  rw [h]
  simp only [Res.bind_ok, if_pos hl, h1, ds?_map]
/-! loops -/
theorem forM_inv {I : Nat → Ev → Sto → Prop} {tg : MG} {b : MS} : ∀ {l : List Va} {k : Nat} {ρ : Ev} {st : Sto}, I k ρ st → (∀ j x, l[j]? = some x → ∀ ρ st, I (k + j) ρ st → ∃ ρ1 ρ2 st2, tg x ρ = some ρ1 ∧ b ρ1 st = .nx ρ2 st2 ∧ I (k + j + 1) ρ2 st2) → ∃ ρ1 st1, forM none tg b l ρ st = .nx ρ1 st1 ∧ I (k + l.length) ρ1 st1
  | [], k, ρ, st, hi, _ => ⟨ρ, st, by unfold forM; rw [if_pos (show gOk none st from trivial)], hi⟩
  | x :: l, k, ρ, st, hi, h => by
    obtain ⟨ρ1, ρ2, st2, h1, h2, h3⟩ := h 0 x rfl ρ st hi
    obtain ⟨ρ3, st3, h4, h5⟩ := forM_inv (k := k + 1) (l := l) (I := I) h3 fun j y hj ρ st hI => by
      have := h (j + 1) y hj ρ st (by rw [show k + (j + 1) = k + 1 + j by omega]; exact hI)
      rw [show k + (j + 1) + 1 = k + 1 + j + 1 by omega] at this
      exact this
    refine ⟨ρ3, st3, ?_, by rw [List.length_cons, show k + (l.length + 1) = k + 1 + l.length by omega]; exact h5⟩
    unfold forM
    rw [if_pos (show gOk none st from trivial), h1]
    simp only [h2, h4]
theorem mFor_inv {I : Nat → Ev → Sto → Prop} {mi : MI} {tg : MG} {b : MS} {l : List Va} {ρ : Ev} {st st0 : Sto} (h : mi ρ st = .ok ⟨l, none⟩ st0) (hi : I 0 ρ st0)
    (hb : ∀ j x, l[j]? = some x → ∀ ρ st, I j ρ st → ∃ ρ1 ρ2 st2, tg x ρ = some ρ1 ∧ b ρ1 st = .nx ρ2 st2 ∧ I (j + 1) ρ2 st2) : ∃ ρ1 st1, mFor mi tg b ρ st = .nx ρ1 st1 ∧ I l.length ρ1 st1 := by
  unfold mFor
  rw [h]
  have := forM_inv (k := 0) (I := I) (tg := tg) (b := b) hi fun j x hj ρ st hI => by
    rw [Nat.zero_add] at hI
    obtain ⟨a, b, c, d⟩ := hb j x hj ρ st hI
    exact ⟨a, b, c, by rw [Nat.zero_add]; exact d⟩
  rw [Nat.zero_add] at this
  exact this
theorem rangeV_eq (lo : Int) (n : Nat) : rangeV lo n = (List.range n).map fun (i : Nat) => Va.d (.int (lo + i)) := rfl
theorem rangeV_len (lo : Int) (n : Nat) : (rangeV lo n).length = n := by simp [rangeV]
theorem rangeV_get {lo : Int} {n j : Nat} {x : Va} (h : (rangeV lo n)[j]? = some x) : x = .d (.int (lo + j)) ∧ j < n := by
  unfold rangeV at h
  rw [List.getElem?_map] at h
  by_cases q : j < n
  · rw [List.getElem?_range q] at h
    cases h
    exact ⟨rfl, q⟩
  · rw [List.getElem?_eq_none (by simp; omega)] at h
    cases h
/-! while -/
theorem mWhile_inv {c : MT} {b : MS} {I : Nat → Ev → Sto → Prop} {Q : Ev → Sto → Prop} (h0 : ∀ n ρ st, I n ρ st → (c ρ st = .ok false st ∧ Q ρ st) ∨ ∃ st1 ρ2 st2 m, c ρ st = .ok true st1 ∧ b ρ st1 = .nx ρ2 st2 ∧ m < n ∧ I m ρ2 st2) : ∀ {n : Nat} {ρ : Ev} {st : Sto}, I n ρ st → ∃ ρ1 st1, mWhile c b ρ st = .nx ρ1 st1 ∧ Q ρ1 st1 := by
  intro n
  induction n using Nat.strongRecOn with
  | _ n ih =>
    intro ρ st hi
    rw [mWhile_step]
    rcases h0 n ρ st hi with ⟨h1, h2⟩ | ⟨st1, ρ2, st2, m, h1, h2, h3, h4⟩
    · rw [h1]
      exact ⟨ρ, st, rfl, h2⟩
    · rw [h1]
      obtain ⟨ρ3, st3, h5, h6⟩ := ih m h3 h4
      refine ⟨ρ3, st3, ?_, h6⟩
      rw [outT_ok]
      simp only [if_true, h2]
      exact h5
theorem gT_tup (n : Nat) (m : List Va → Ev → Option Ev) (xs : List D) (ρ : Ev) : gT n m (.d (.tup xs)) ρ = if xs.length = n then m (xs.map Va.d) ρ else none := rfl
theorem gL_lst (n : Nat) (m : List Va → Ev → Option Ev) (xs : List D) (ρ : Ev) : gL n m (.d (.lst xs)) ρ = if xs.length = n then m (xs.map Va.d) ρ else none := rfl
theorem gsC_cons (m : MG) (r : List Va → Ev → Option Ev) (x : Va) (xs : List Va) (ρ : Ev) : gsC m r (x :: xs) ρ = (m x ρ).bind (r xs) := rfl
theorem gsN_nil (ρ : Ev) : gsN [] ρ = some ρ := rfl
theorem getF_o (f c : String) (fs : List (String × D)) (st : Sto) : getF f (.d (.obj c fs)) st = (fs.lookup f).map Va.d := rfl
theorem getF_r (f : String) (n : Nat) (st : Sto) : getF f (.ref n) st = (match st[n]? with
    | some (.obj _ fs) => fs.lookup f
    | _ => none) := rfl

/-! M14: the parts that all laws share, worked out: pools, draws, greatest divisors -/
noncomputable def gDraw : MF := mFun 2 3 (mSeq (mIfS (mTst (mBin oGt (mBin oIx (mVar 0) (mC (.int 0))) (mC (.int 0)))) (mSeq (mAsg (mBin oMod (mCB oInt (mCons (mBin oIx (mVar 0) (mC (.int 0))) mNil)) (mVar 1)) (gN 2))
      (mSeq (mSetI (mVar 0) (mC (.int 0)) (mBin oFdiv (mBin oIx (mVar 0) (mC (.int 0))) (mVar 1)))
      (mRet (mVar 2)))) mSkip)
      (mSeq (mSetI (mVar 0) (mC (.int 1)) (mBin oMod (mCB oInt (mCons (mBin oAdd (mBin oMul (mBin oIx (mVar 0) (mC (.int 1))) (mC (.int 48271))) (mC (.int 11))) mNil)) (mC (.int 2147483647))))
      (mRet (mBin oMod (mBin oFdiv (mBin oMod (mCB oInt (mCons (mBin oMul (mBin oIx (mVar 0) (mC (.int 1))) (mBin oIx (mVar 0) (mC (.int 1)))) mNil)) (mC (.int 2147483629))) (mC (.int 64))) (mVar 1)))))
noncomputable def gPool : MF := mFun 2 4 (mSeq (mAsg (mC (.int 0)) (gN 2))
      (mSeq (mIfS (mTst (mBin oLt (mVar 1) (mCB oLen (mCons (mVar 0) mNil)))) (mAsg (mBin oIx (mVar 0) (mVar 1)) (gN 2)) mSkip)
      (mSeq (mAsg (mBin oMod (mBin oPow (mBin oAdd (mBin oAdd (mBin oMod (mCB oInt (mCons (mVar 2) mNil)) (mC (.int 2147483629))) (mBin oMul (mBin oMul (mC (.int 7919)) (mVar 1)) (mVar 1))) (mC (.int 31))) (mC (.int 3))) (mC (.int 2147483647))) (gN 3))
      (mSeq (mIfS (mTst (mBin oLt (mVar 2) (mBin oPow (mC (.int 10)) (mC (.int 18))))) (mAsg (mC (.int 0)) (gN 2)) mSkip)
      (mRet (mLstC (mCons (mVar 2) (mCons (mVar 3) mNil))))))))
/-- a pool lies in cell k -/
def PoolAt (k : Nat) (st : Sto) : Prop := ∃ c s : Int, st[k]? = some (.lst [.d (.int c), .d (.int s)]) ∧ 0 ≤ s ∧ s < 2147483647
theorem log2_small {i : Int} {n : Nat} (h : i.natAbs < 2 ^ n) (hn : 0 < n) : i.natAbs.log2 < n := by
  by_cases z : i.natAbs = 0
  · rw [z]; simpa using hn
  · exact (Nat.log2_lt z).mpr h
theorem cdivx {i j : Int} (h0 : j ≠ 0) (h : j.natAbs < 2 ^ 64) : CDivX i j := ⟨h0, Nat.lt_trans (log2_small h (by decide)) (by decide)⟩
theorem cmulw {i j : Int} (h : i.natAbs < 2 ^ 64) (h2 : j.natAbs < 2 ^ 64) : CMulW i j := by
  have := log2_small h (by decide)
  have := log2_small h2 (by decide)
  unfold CMulW
  omega
theorem fmod_pos {i j : Int} (h : 0 < j) : 0 ≤ i.fmod j ∧ i.fmod j < j := ⟨Int.fmod_nonneg_of_pos i h, Int.fmod_lt_of_pos i h⟩
theorem set_get {st : Sto} {k : Nat} {o p : MO} (h : st[k]? = some p) : (st.set k o)[k]? = some o := by
  rw [List.getElem?_set_self (List.getElem?_eq_some_iff.mp h).1]
theorem draw_ok {k : Nat} {st : Sto} {n : Int} (P : PoolAt k st) (hn : 0 < n) (hn2 : n < 1000000) : ∃ d st1, gDraw [.ref k, .d (.int n)] st = .ok (.d (.int d)) st1 ∧ 0 ≤ d ∧ d < n ∧ PoolAt k st1 ∧ st1.length = st.length := by
  obtain ⟨c, s, h, h1, h2⟩ := P
  have i0 : atI [Va.d (.int c), .d (.int s)] 0 = some (.d (.int c)) := rfl
  have i1 : atI [Va.d (.int c), .d (.int s)] 1 = some (.d (.int s)) := rfl
  have x0 : ixN 2 0 = some 0 := rfl
  have x1 : ixN 2 1 = some 1 := rfl
  by_cases hc : 0 < c
  · refine ⟨c.fmod n, st.set k (.lst [.d (.int (c.fdiv n)), .d (.int s)]), ?_, (fmod_pos hn).1, (fmod_pos hn).2, ⟨_, _, set_get h, h1, h2⟩, by rw [List.length_set]⟩
    have a1 := fdiv_ok (i := c) st (cdivx (i := c) (j := n) (by omega) (by omega))
    have a2 := mod_ok (i := c) (j := n) st (by omega)
    unfold gDraw
    simp only [mFun_eq', mSeq_eq, mIfS, mRet, mRetN, mAsg, mPar, mExpr, mSkip, mBrk, mCnt, mBad, mRaise, outE_ok, outT_ok, outE_er, seqO_nx, seqO_rt, seqO_er, retO_rt, retO_nx, retO_er, Res.bind_ok, Res.bind_er, Res.bind_bad, mVar_0, mVar_s, mVarI_0, mVarI_s, strip_ref, strip_non, strip_bl, strip_int, strip_str, strip_lst, strip_tup, strip_obj, strip_lck, strip_idn, mC, mBin, mUn, mTst, mCB, mCons, mNil, mStar, mAnd, mOr, mAndT, mOrT, mNotT, mIf, mTru, truV, mTup, mLst, ds?, ds?_map, mCall, withD, mFld, getF_o, getF_r, oNeg, oNot, oAbs, oMax, oMin, oI1, oI2, oInt, add_ii, sub_ii, lt_ii, le_ii, gt_ii, ge_ii, eq_ii, ne_ii, gN, gT_tup, gL_lst, gsC_cons, gsN_nil, List.map_cons, List.map_nil, List.length_cons, List.length_nil, List.cons_append, List.nil_append, List.append_nil, List.replicate_zero, List.replicate_succ, List.set_cons_zero, List.set_cons_succ, List.zip_cons_cons, List.zip_nil_right, List.foldl_cons, List.foldl_nil, Option.map_some, Option.map_none, Option.bind_some, Nat.reduceAdd, Nat.reduceSub, Nat.reduceEqDiff, Nat.reduceLT, Nat.reduceLeDiff, String.reduceEq, reduceCtorEq, Int.reduceLT, Int.reduceLE, Int.reduceEq, Int.reduceAdd, Int.reduceSub, Int.reduceNeg, Int.reduceMul, String.reduceBEq, decide_true, decide_false, if_true, if_false, ite_true, ite_false, Bool.false_eq_true, Bool.not_true, Bool.not_false, Bool.true_and, Bool.false_and, Bool.and_true, Bool.and_false, Bool.true_or, Bool.false_or, Bool.or_true, Bool.or_false, mSetI, ix_ref k _ _ _ st h i0, hc, decide_true, a1, a2, h, x0]
    try rfl
  · refine ⟨((((s * 48271 + 11).fmod 2147483647 * (s * 48271 + 11).fmod 2147483647).fmod 2147483629).fdiv 64).fmod n, _, ?_, (fmod_pos hn).1, (fmod_pos hn).2, ⟨c, (s * 48271 + 11).fmod 2147483647, set_get h, (fmod_pos (by decide)).1, (fmod_pos (by decide)).2⟩, by rw [List.length_set]⟩
    have g1 := fmod_pos (i := s * 48271 + 11) (j := 2147483647) (by decide)
    have a1 := mul_ok (i := s) (j := 48271) st (cmulw (by omega) (by decide))
    have a2 := fun st => mod_ok (i := s * 48271 + 11) (j := 2147483647) st (by decide)
    have a3 := fun st => mul_ok (i := (s * 48271 + 11).fmod 2147483647) (j := (s * 48271 + 11).fmod 2147483647) st (cmulw (by omega) (by omega))
    have a4 := fun i st => mod_ok (i := i) (j := 2147483629) st (by decide)
    have a5 := fun i st => fdiv_ok (i := i) (j := 64) st (cdivx (by decide) (by decide))
    have a6 := fun i st => mod_ok (i := i) (j := n) st (by omega)
    have h' : (st.set k (.lst [.d (.int c), .d (.int ((s * 48271 + 11).fmod 2147483647))]))[k]? = some (.lst [.d (.int c), .d (.int ((s * 48271 + 11).fmod 2147483647))]) := set_get h
    have i2 : atI [Va.d (.int c), .d (.int ((s * 48271 + 11).fmod 2147483647))] 1 = some (.d (.int ((s * 48271 + 11).fmod 2147483647))) := rfl
    unfold gDraw
    simp only [mFun_eq', mSeq_eq, mIfS, mRet, mRetN, mAsg, mPar, mExpr, mSkip, mBrk, mCnt, mBad, mRaise, outE_ok, outT_ok, outE_er, seqO_nx, seqO_rt, seqO_er, retO_rt, retO_nx, retO_er, Res.bind_ok, Res.bind_er, Res.bind_bad, mVar_0, mVar_s, mVarI_0, mVarI_s, strip_ref, strip_non, strip_bl, strip_int, strip_str, strip_lst, strip_tup, strip_obj, strip_lck, strip_idn, mC, mBin, mUn, mTst, mCB, mCons, mNil, mStar, mAnd, mOr, mAndT, mOrT, mNotT, mIf, mTru, truV, mTup, mLst, ds?, ds?_map, mCall, withD, mFld, getF_o, getF_r, oNeg, oNot, oAbs, oMax, oMin, oI1, oI2, oInt, add_ii, sub_ii, lt_ii, le_ii, gt_ii, ge_ii, eq_ii, ne_ii, gN, gT_tup, gL_lst, gsC_cons, gsN_nil, List.map_cons, List.map_nil, List.length_cons, List.length_nil, List.cons_append, List.nil_append, List.append_nil, List.replicate_zero, List.replicate_succ, List.set_cons_zero, List.set_cons_succ, List.zip_cons_cons, List.zip_nil_right, List.foldl_cons, List.foldl_nil, Option.map_some, Option.map_none, Option.bind_some, Nat.reduceAdd, Nat.reduceSub, Nat.reduceEqDiff, Nat.reduceLT, Nat.reduceLeDiff, String.reduceEq, reduceCtorEq, Int.reduceLT, Int.reduceLE, Int.reduceEq, Int.reduceAdd, Int.reduceSub, Int.reduceNeg, Int.reduceMul, String.reduceBEq, decide_true, decide_false, if_true, if_false, ite_true, ite_false, Bool.false_eq_true, Bool.not_true, Bool.not_false, Bool.true_and, Bool.false_and, Bool.and_true, Bool.and_false, Bool.true_or, Bool.false_or, Bool.or_true, Bool.or_false, mSetI, ix_ref k _ _ _ st h i0, ix_ref k _ _ _ st h i1, hc, decide_false, a1, a2, h, x1, ix_ref k _ _ _ _ h' i2, a3, a4, a5, a6]
theorem pool_ok {ns : List Int} {j : Nat} {st : Sto} (hj : j < 1000) : ∃ st1, gPool [.d (.lck ns), .d (.int j)] st = .ok (.ref st.length) st1 ∧ PoolAt st.length st1 := by
  have key : ∀ c : Int, ∃ s : Int, 0 ≤ s ∧ s < 2147483647 ∧ ∀ (ρ0 ρ1 : Option Va) (st : Sto), mAsg (mBin oMod (mBin oPow (mBin oAdd (mBin oAdd (mBin oMod (mCB oInt (mCons (mVar 2) mNil)) (mC (.int 2147483629))) (mBin oMul (mBin oMul (mC (.int 7919)) (mVar 1)) (mVar 1))) (mC (.int 31))) (mC (.int 3))) (mC (.int 2147483647))) (gN 3) [ρ0, some (.d (.int j)), some (.d (.int c)), ρ1] st = .nx [ρ0, some (.d (.int j)), some (.d (.int c)), some (.d (.int s))] st := fun c => by
    have g1 := fmod_pos (i := c) (j := 2147483629) (by decide)
    have hj1 : (7919 * (j : Int)).natAbs < 2 ^ 64 := by omega
    have b1 : (7919 * (j : Int) * j) ≤ 7919 * 1000 * 1000 := by
      have : (7919 * (j : Int)) * j ≤ (7919 * 1000) * 1000 := Int.mul_le_mul (by omega) (by omega) (by omega) (by omega)
      omega
    have b2 : 0 ≤ 7919 * (j : Int) * j := Int.mul_nonneg (by omega) (by omega)
    have a1 := fun st => mod_ok (i := c) (j := 2147483629) st (by decide)
    have a2 := fun st => mul_ok (i := 7919) (j := j) st (cmulw (by decide) (by omega))
    have a3 := fun st => mul_ok (i := 7919 * j) (j := j) st (cmulw hj1 (by omega))
    have a4 : ∀ st, oPow (.d (.int (c.fmod 2147483629 + 7919 * j * j + 31))) (.d (.int 3)) st = .ok (.d (.int ((c.fmod 2147483629 + 7919 * j * j + 31) ^ 3))) st := fun st => if_pos ⟨by decide, by decide, by omega⟩
    have a5 := fun i st => mod_ok (i := i) (j := 2147483647) st (by decide)
    have g2 := fmod_pos (i := (c.fmod 2147483629 + 7919 * j * j + 31) ^ 3) (j := 2147483647) (by decide)
    refine ⟨((c.fmod 2147483629 + 7919 * j * j + 31) ^ 3).fmod 2147483647, g2.1, g2.2, fun ρ0 ρ1 st => ?_⟩
    simp only [mFun_eq', mSeq_eq, mIfS, mRet, mRetN, mAsg, mPar, mExpr, mSkip, mBrk, mCnt, mBad, mRaise, outE_ok, outT_ok, outE_er, seqO_nx, seqO_rt, seqO_er, retO_rt, retO_nx, retO_er, Res.bind_ok, Res.bind_er, Res.bind_bad, mVar_0, mVar_s, mVarI_0, mVarI_s, strip_ref, strip_non, strip_bl, strip_int, strip_str, strip_lst, strip_tup, strip_obj, strip_lck, strip_idn, mC, mBin, mUn, mTst, mCB, mCons, mNil, mStar, mAnd, mOr, mAndT, mOrT, mNotT, mIf, mTru, truV, mTup, mLst, ds?, ds?_map, mCall, withD, mFld, getF_o, getF_r, oNeg, oNot, oAbs, oMax, oMin, oI1, oI2, oInt, add_ii, sub_ii, lt_ii, le_ii, gt_ii, ge_ii, eq_ii, ne_ii, gN, gT_tup, gL_lst, gsC_cons, gsN_nil, List.map_cons, List.map_nil, List.length_cons, List.length_nil, List.cons_append, List.nil_append, List.append_nil, List.replicate_zero, List.replicate_succ, List.set_cons_zero, List.set_cons_succ, List.zip_cons_cons, List.zip_nil_right, List.foldl_cons, List.foldl_nil, Option.map_some, Option.map_none, Option.bind_some, Nat.reduceAdd, Nat.reduceSub, Nat.reduceEqDiff, Nat.reduceLT, Nat.reduceLeDiff, String.reduceEq, reduceCtorEq, Int.reduceLT, Int.reduceLE, Int.reduceEq, Int.reduceAdd, Int.reduceSub, Int.reduceNeg, Int.reduceMul, String.reduceBEq, decide_true, decide_false, if_true, if_false, ite_true, ite_false, Bool.false_eq_true, Bool.not_true, Bool.not_false, Bool.true_and, Bool.false_and, Bool.and_true, Bool.and_false, Bool.true_or, Bool.false_or, Bool.or_true, Bool.or_false, a1, a2, a3, a4, a5]
  have p18 : ∀ st, oPow (.d (.int 10)) (.d (.int 18)) st = .ok (.d (.int 1000000000000000000)) st := fun st => by
    show (if CPow 10 18 then (Res.ok (.d (.int ((10 : Int) ^ (18 : Int).toNat))) st : Res Va) else .bad) = _
    rw [if_pos ⟨by decide, by decide, by decide⟩]
    rfl
  have fin : ∀ c : Int, ∃ st1, retO (seqO (mSeq (mAsg (mBin oMod (mBin oPow (mBin oAdd (mBin oAdd (mBin oMod (mCB oInt (mCons (mVar 2) mNil)) (mC (.int 2147483629))) (mBin oMul (mBin oMul (mC (.int 7919)) (mVar 1)) (mVar 1))) (mC (.int 31))) (mC (.int 3))) (mC (.int 2147483647))) (gN 3))
      (mSeq (mIfS (mTst (mBin oLt (mVar 2) (mBin oPow (mC (.int 10)) (mC (.int 18))))) (mAsg (mC (.int 0)) (gN 2)) mSkip)
      (mRet (mLstC (mCons (mVar 2) (mCons (mVar 3) mNil))))) [some (.d (.lck ns)), some (.d (.int j)), some (.d (.int c)), none] st) mSkip) = .ok (.ref st.length) st1 ∧ PoolAt st.length st1 := fun c => by
    obtain ⟨s, s1, s2, e⟩ := key c
    rw [mSeq_eq, e, seqO_nx, mSeq_eq]
    by_cases q : c < 1000000000000000000
    · refine ⟨st ++ [.lst [.d (.int 0), .d (.int s)]], ?_, 0, s, by simp, s1, s2⟩
      simp only [mFun_eq', mSeq_eq, mIfS, mRet, mRetN, mAsg, mPar, mExpr, mSkip, mBrk, mCnt, mBad, mRaise, outE_ok, outT_ok, outE_er, seqO_nx, seqO_rt, seqO_er, retO_rt, retO_nx, retO_er, Res.bind_ok, Res.bind_er, Res.bind_bad, mVar_0, mVar_s, mVarI_0, mVarI_s, strip_ref, strip_non, strip_bl, strip_int, strip_str, strip_lst, strip_tup, strip_obj, strip_lck, strip_idn, mC, mBin, mUn, mTst, mCB, mCons, mNil, mStar, mAnd, mOr, mAndT, mOrT, mNotT, mIf, mTru, truV, mTup, mLst, ds?, ds?_map, mCall, withD, mFld, getF_o, getF_r, oNeg, oNot, oAbs, oMax, oMin, oI1, oI2, oInt, add_ii, sub_ii, lt_ii, le_ii, gt_ii, ge_ii, eq_ii, ne_ii, gN, gT_tup, gL_lst, gsC_cons, gsN_nil, List.map_cons, List.map_nil, List.length_cons, List.length_nil, List.cons_append, List.nil_append, List.append_nil, List.replicate_zero, List.replicate_succ, List.set_cons_zero, List.set_cons_succ, List.zip_cons_cons, List.zip_nil_right, List.foldl_cons, List.foldl_nil, Option.map_some, Option.map_none, Option.bind_some, Nat.reduceAdd, Nat.reduceSub, Nat.reduceEqDiff, Nat.reduceLT, Nat.reduceLeDiff, String.reduceEq, reduceCtorEq, Int.reduceLT, Int.reduceLE, Int.reduceEq, Int.reduceAdd, Int.reduceSub, Int.reduceNeg, Int.reduceMul, String.reduceBEq, decide_true, decide_false, if_true, if_false, ite_true, ite_false, Bool.false_eq_true, Bool.not_true, Bool.not_false, Bool.true_and, Bool.false_and, Bool.and_true, Bool.and_false, Bool.true_or, Bool.false_or, Bool.or_true, Bool.or_false, p18, q, decide_true, mLstC]
      rfl
    · refine ⟨st ++ [.lst [.d (.int c), .d (.int s)]], ?_, c, s, by simp, s1, s2⟩
      simp only [mFun_eq', mSeq_eq, mIfS, mRet, mRetN, mAsg, mPar, mExpr, mSkip, mBrk, mCnt, mBad, mRaise, outE_ok, outT_ok, outE_er, seqO_nx, seqO_rt, seqO_er, retO_rt, retO_nx, retO_er, Res.bind_ok, Res.bind_er, Res.bind_bad, mVar_0, mVar_s, mVarI_0, mVarI_s, strip_ref, strip_non, strip_bl, strip_int, strip_str, strip_lst, strip_tup, strip_obj, strip_lck, strip_idn, mC, mBin, mUn, mTst, mCB, mCons, mNil, mStar, mAnd, mOr, mAndT, mOrT, mNotT, mIf, mTru, truV, mTup, mLst, ds?, ds?_map, mCall, withD, mFld, getF_o, getF_r, oNeg, oNot, oAbs, oMax, oMin, oI1, oI2, oInt, add_ii, sub_ii, lt_ii, le_ii, gt_ii, ge_ii, eq_ii, ne_ii, gN, gT_tup, gL_lst, gsC_cons, gsN_nil, List.map_cons, List.map_nil, List.length_cons, List.length_nil, List.cons_append, List.nil_append, List.append_nil, List.replicate_zero, List.replicate_succ, List.set_cons_zero, List.set_cons_succ, List.zip_cons_cons, List.zip_nil_right, List.foldl_cons, List.foldl_nil, Option.map_some, Option.map_none, Option.bind_some, Nat.reduceAdd, Nat.reduceSub, Nat.reduceEqDiff, Nat.reduceLT, Nat.reduceLeDiff, String.reduceEq, reduceCtorEq, Int.reduceLT, Int.reduceLE, Int.reduceEq, Int.reduceAdd, Int.reduceSub, Int.reduceNeg, Int.reduceMul, String.reduceBEq, decide_true, decide_false, if_true, if_false, ite_true, ite_false, Bool.false_eq_true, Bool.not_true, Bool.not_false, Bool.true_and, Bool.false_and, Bool.and_true, Bool.and_false, Bool.true_or, Bool.false_or, Bool.or_true, Bool.or_false, p18, q, decide_false, mLstC]
      rfl
  have sk : ∀ o : Out, retO (seqO o mSkip) = retO o := fun o => by cases o <;> rfl
  unfold gPool
  by_cases q : j < ns.length
  · obtain ⟨st1, h1, h2⟩ := fin ns[j]
    refine ⟨st1, ?_, h2⟩
    rw [← h1, sk, mFun_eq' 2 4 _ _ _ rfl]
    have e1 : oLen [.d (.lck ns)] st = .ok (.d (.int ns.length)) st := rfl
    have e2 : decide ((j : Int) < ns.length) = true := decide_eq_true (by omega)
    have e3 : atI ns (j : Int) = some ns[j] := by
      unfold atI ixN
      rw [if_pos (by omega), if_pos (by omega)]
      show ns[((j : Int).toNat)]? = _
      rw [Int.toNat_natCast, List.getElem?_eq_getElem q]
    simp only [mFun_eq', mSeq_eq, mIfS, mRet, mRetN, mAsg, mPar, mExpr, mSkip, mBrk, mCnt, mBad, mRaise, outE_ok, outT_ok, outE_er, seqO_nx, seqO_rt, seqO_er, retO_rt, retO_nx, retO_er, Res.bind_ok, Res.bind_er, Res.bind_bad, mVar_0, mVar_s, mVarI_0, mVarI_s, strip_ref, strip_non, strip_bl, strip_int, strip_str, strip_lst, strip_tup, strip_obj, strip_lck, strip_idn, mC, mBin, mUn, mTst, mCB, mCons, mNil, mStar, mAnd, mOr, mAndT, mOrT, mNotT, mIf, mTru, truV, mTup, mLst, ds?, ds?_map, mCall, withD, mFld, getF_o, getF_r, oNeg, oNot, oAbs, oMax, oMin, oI1, oI2, oInt, add_ii, sub_ii, lt_ii, le_ii, gt_ii, ge_ii, eq_ii, ne_ii, gN, gT_tup, gL_lst, gsC_cons, gsN_nil, List.map_cons, List.map_nil, List.length_cons, List.length_nil, List.cons_append, List.nil_append, List.append_nil, List.replicate_zero, List.replicate_succ, List.set_cons_zero, List.set_cons_succ, List.zip_cons_cons, List.zip_nil_right, List.foldl_cons, List.foldl_nil, Option.map_some, Option.map_none, Option.bind_some, Nat.reduceAdd, Nat.reduceSub, Nat.reduceEqDiff, Nat.reduceLT, Nat.reduceLeDiff, String.reduceEq, reduceCtorEq, Int.reduceLT, Int.reduceLE, Int.reduceEq, Int.reduceAdd, Int.reduceSub, Int.reduceNeg, Int.reduceMul, String.reduceBEq, decide_true, decide_false, if_true, if_false, ite_true, ite_false, Bool.false_eq_true, Bool.not_true, Bool.not_false, Bool.true_and, Bool.false_and, Bool.and_true, Bool.and_false, Bool.true_or, Bool.false_or, Bool.or_true, Bool.or_false, e1, e2, ix_lck ns _ _ st e3]
  · obtain ⟨st1, h1, h2⟩ := fin 0
    refine ⟨st1, ?_, h2⟩
    rw [← h1, sk, mFun_eq' 2 4 _ _ _ rfl]
    have e1 : oLen [.d (.lck ns)] st = .ok (.d (.int ns.length)) st := rfl
    have e2 : decide ((j : Int) < ns.length) = false := decide_eq_false (by omega)
    simp only [mFun_eq', mSeq_eq, mIfS, mRet, mRetN, mAsg, mPar, mExpr, mSkip, mBrk, mCnt, mBad, mRaise, outE_ok, outT_ok, outE_er, seqO_nx, seqO_rt, seqO_er, retO_rt, retO_nx, retO_er, Res.bind_ok, Res.bind_er, Res.bind_bad, mVar_0, mVar_s, mVarI_0, mVarI_s, strip_ref, strip_non, strip_bl, strip_int, strip_str, strip_lst, strip_tup, strip_obj, strip_lck, strip_idn, mC, mBin, mUn, mTst, mCB, mCons, mNil, mStar, mAnd, mOr, mAndT, mOrT, mNotT, mIf, mTru, truV, mTup, mLst, ds?, ds?_map, mCall, withD, mFld, getF_o, getF_r, oNeg, oNot, oAbs, oMax, oMin, oI1, oI2, oInt, add_ii, sub_ii, lt_ii, le_ii, gt_ii, ge_ii, eq_ii, ne_ii, gN, gT_tup, gL_lst, gsC_cons, gsN_nil, List.map_cons, List.map_nil, List.length_cons, List.length_nil, List.cons_append, List.nil_append, List.append_nil, List.replicate_zero, List.replicate_succ, List.set_cons_zero, List.set_cons_succ, List.zip_cons_cons, List.zip_nil_right, List.foldl_cons, List.foldl_nil, Option.map_some, Option.map_none, Option.bind_some, Nat.reduceAdd, Nat.reduceSub, Nat.reduceEqDiff, Nat.reduceLT, Nat.reduceLeDiff, String.reduceEq, reduceCtorEq, Int.reduceLT, Int.reduceLE, Int.reduceEq, Int.reduceAdd, Int.reduceSub, Int.reduceNeg, Int.reduceMul, String.reduceBEq, decide_true, decide_false, if_true, if_false, ite_true, ite_false, Bool.false_eq_true, Bool.not_true, Bool.not_false, Bool.true_and, Bool.false_and, Bool.and_true, Bool.and_false, Bool.true_or, Bool.false_or, Bool.or_true, Bool.or_false, e1, e2]

/-! M15: loops over lists that are written out; is_integer, greatest_divisor, Ratio -/
def loopO (o : Out) (k : MS) : Out := match o with
  | .nx ρ st => k ρ st
  | .ct ρ st => k ρ st
  | .bk ρ st => .nx ρ st
  | o => o
theorem loopO_nx (ρ : Ev) (st : Sto) (b : MS) : loopO (.nx ρ st) b = b ρ st := rfl
theorem loopO_ct (ρ : Ev) (st : Sto) (b : MS) : loopO (.ct ρ st) b = b ρ st := rfl
theorem loopO_bk (ρ : Ev) (st : Sto) (b : MS) : loopO (.bk ρ st) b = .nx ρ st := rfl
theorem loopO_rt (v : Va) (st : Sto) (b : MS) : loopO (.rt v st) b = .rt v st := rfl
theorem loopO_er (c : String) (fs : List (String × Va)) (ρ : Ev) (st : Sto) (b : MS) : loopO (.er c fs ρ st) b = .er c fs ρ st := rfl
theorem forM_nil' (tg : MG) (b : MS) (ρ : Ev) (st : Sto) : forM none tg b [] ρ st = .nx ρ st := by
  unfold forM
  rw [if_pos (show gOk none st from trivial)]
theorem forM_cons' (tg : MG) (b : MS) (x : Va) (xs : List Va) (ρ : Ev) (st : Sto) : forM none tg b (x :: xs) ρ st = (match tg x ρ with
    | some ρ1 => loopO (b ρ1 st) (forM none tg b xs)
    | none => .bad) := by
  rw [forM]
  rw [if_pos (show gOk none st from trivial)]
  cases tg x ρ with
  | none => rfl
  | some ρ1 =>
    unfold loopO
    first
      | (simp only; done)
      | (simp only; cases b ρ1 st <;> rfl)
theorem mFor_eq {mi : MI} {tg : MG} {b : MS} {ρ : Ev} {st st0 : Sto} {l : List Va} (h : mi ρ st = .ok ⟨l, none⟩ st0) : mFor mi tg b ρ st = forM none tg b l ρ st0 := by
  unfold mFor
  rw [h]
theorem itS_tup {a : ME} {ρ : Ev} {st st1 : Sto} {xs : List D} (h : a ρ st = .ok (.d (.tup xs)) st1) : mItS a ρ st = .ok ⟨xs.map Va.d, none⟩ st1 := by
  unfold mItS
  rw [h]
  rfl
theorem itS_lst {a : ME} {ρ : Ev} {st st1 : Sto} {xs : List D} (h : a ρ st = .ok (.d (.lst xs)) st1) : mItS a ρ st = .ok ⟨xs.map Va.d, none⟩ st1 := by
  unfold mItS
  rw [h]
  rfl
theorem itR1 {m : MA} {ρ : Ev} {st st1 : Sto} {n : Nat} (h : m ρ st = .ok [.d (.int n)] st1) (hn : n ≤ 1000000000) : mItR1 m ρ st = .ok ⟨rangeV 0 n, none⟩ st1 := by
  unfold mItR1
  rw [h]
  have e : inR (n : Int) = true := by
    unfold inR
    rw [Bool.and_eq_true]
    exact ⟨decide_eq_true (by omega), decide_eq_true (by omega)⟩
  simp only [Res.bind_ok, e, if_true, Int.toNat_natCast]
theorem itZ {m : MA} {ρ : Ev} {st st1 : Sto} {a b : List D} (h : m ρ st = .ok [.d (.lst a), .d (.lst b)] st1) : mItZ m ρ st = .ok ⟨(a.zip b).map fun d => Va.d (.tup [d.1, d.2]), none⟩ st1 := by
  unfold mItZ
  rw [h]
  rfl
/-! is_integer -/
def isI : D → Bool
  | .int _ => true
  | _ => false
def okV : D → Bool
  | .non => true
  | .bl _ => true
  | .int _ => true
  | .str _ => true
  | .lst _ => true
  | .tup _ => true
  | .obj _ _ => true
  | _ => false
noncomputable def gIsInt : MF := mFun 1 1 (mRet (mAnd (mCB oIsi (mCons (mVar 0) (mCons (mC (.ty "int")) mNil))) (mUn oNot (mCB oIsi (mCons (mVar 0) (mCons (mC (.ty "bool")) mNil))))))
theorem isi_ty {x : D} {T : String} {st : Sto} {b : Bool} {g : Tag} (hg : tagOf (.d x) st = some g) (h : isi1 g (.ty T) = some b) : oIsi [.d x, .d (.ty T)] st = .ok (.d (.bl b)) st := by
  unfold oIsi
  simp only [hg, h]
theorem isi_cls {x : D} {T : String} {st : Sto} {b : Bool} {g : Tag} (hg : tagOf (.d x) st = some g) (h : isi1 g (.cls T) = some b) : oIsi [.d x, .d (.cls T)] st = .ok (.d (.bl b)) st := by
  unfold oIsi
  simp only [hg, h]
theorem isInt_ok {x : D} (hx : okV x = true) (st : Sto) : gIsInt [.d x] st = .ok (.d (.bl (isI x))) st := by
  have e1 : ∀ x' : D, ∀ n, tagOf (.d x') st = some (.ty n) → oIsi [.d x', .d (.ty "int")] st = .ok (.d (.bl (n == "int" || (n == "bool" && "int" == "int")))) st := fun x' n h => isi_ty h rfl
  have e2 : ∀ x' : D, ∀ n, tagOf (.d x') st = some (.ty n) → oIsi [.d x', .d (.ty "bool")] st = .ok (.d (.bl (n == "bool" || (n == "bool" && "bool" == "int")))) st := fun x' n h => isi_ty h rfl
  unfold gIsInt
  cases x with
  | non => simp only [mFun_eq', mSeq_eq, mIfS, mRet, mRetN, mAsg, mPar, mExpr, mSkip, mBrk, mCnt, mBad, mRaise, outE_ok, outT_ok, outE_er, seqO_nx, seqO_rt, seqO_er, retO_rt, retO_nx, retO_er, Res.bind_ok, Res.bind_er, Res.bind_bad, mVar_0, mVar_s, mVarI_0, mVarI_s, strip_ref, strip_non, strip_bl, strip_int, strip_str, strip_lst, strip_tup, strip_obj, strip_lck, strip_idn, mC, mBin, mUn, mTst, mCB, mCons, mNil, mStar, mAnd, mOr, mAndT, mOrT, mNotT, mIf, mTru, truV, mTup, mLst, ds?, ds?_map, mCall, withD, mFld, getF_o, getF_r, oNeg, oNot, oAbs, oMax, oMin, oI1, oI2, oInt, add_ii, sub_ii, lt_ii, le_ii, gt_ii, ge_ii, eq_ii, ne_ii, gN, gT_tup, gL_lst, gsC_cons, gsN_nil, List.map_cons, List.map_nil, List.length_cons, List.length_nil, List.cons_append, List.nil_append, List.append_nil, List.replicate_zero, List.replicate_succ, List.set_cons_zero, List.set_cons_succ, List.zip_cons_cons, List.zip_nil_right, List.foldl_cons, List.foldl_nil, Option.map_some, Option.map_none, Option.bind_some, Nat.reduceAdd, Nat.reduceSub, Nat.reduceEqDiff, Nat.reduceLT, Nat.reduceLeDiff, String.reduceEq, reduceCtorEq, Int.reduceLT, Int.reduceLE, Int.reduceEq, Int.reduceAdd, Int.reduceSub, Int.reduceNeg, Int.reduceMul, String.reduceBEq, decide_true, decide_false, if_true, if_false, ite_true, ite_false, Bool.false_eq_true, Bool.not_true, Bool.not_false, Bool.true_and, Bool.false_and, Bool.and_true, Bool.and_false, Bool.true_or, Bool.false_or, Bool.or_true, Bool.or_false, e1 .non _ rfl]; rfl
  | bl b => simp only [mFun_eq', mSeq_eq, mIfS, mRet, mRetN, mAsg, mPar, mExpr, mSkip, mBrk, mCnt, mBad, mRaise, outE_ok, outT_ok, outE_er, seqO_nx, seqO_rt, seqO_er, retO_rt, retO_nx, retO_er, Res.bind_ok, Res.bind_er, Res.bind_bad, mVar_0, mVar_s, mVarI_0, mVarI_s, strip_ref, strip_non, strip_bl, strip_int, strip_str, strip_lst, strip_tup, strip_obj, strip_lck, strip_idn, mC, mBin, mUn, mTst, mCB, mCons, mNil, mStar, mAnd, mOr, mAndT, mOrT, mNotT, mIf, mTru, truV, mTup, mLst, ds?, ds?_map, mCall, withD, mFld, getF_o, getF_r, oNeg, oNot, oAbs, oMax, oMin, oI1, oI2, oInt, add_ii, sub_ii, lt_ii, le_ii, gt_ii, ge_ii, eq_ii, ne_ii, gN, gT_tup, gL_lst, gsC_cons, gsN_nil, List.map_cons, List.map_nil, List.length_cons, List.length_nil, List.cons_append, List.nil_append, List.append_nil, List.replicate_zero, List.replicate_succ, List.set_cons_zero, List.set_cons_succ, List.zip_cons_cons, List.zip_nil_right, List.foldl_cons, List.foldl_nil, Option.map_some, Option.map_none, Option.bind_some, Nat.reduceAdd, Nat.reduceSub, Nat.reduceEqDiff, Nat.reduceLT, Nat.reduceLeDiff, String.reduceEq, reduceCtorEq, Int.reduceLT, Int.reduceLE, Int.reduceEq, Int.reduceAdd, Int.reduceSub, Int.reduceNeg, Int.reduceMul, String.reduceBEq, decide_true, decide_false, if_true, if_false, ite_true, ite_false, Bool.false_eq_true, Bool.not_true, Bool.not_false, Bool.true_and, Bool.false_and, Bool.and_true, Bool.and_false, Bool.true_or, Bool.false_or, Bool.or_true, Bool.or_false, e1 (.bl b) _ rfl, e2 (.bl b) _ rfl]; rfl
  | int i => simp only [mFun_eq', mSeq_eq, mIfS, mRet, mRetN, mAsg, mPar, mExpr, mSkip, mBrk, mCnt, mBad, mRaise, outE_ok, outT_ok, outE_er, seqO_nx, seqO_rt, seqO_er, retO_rt, retO_nx, retO_er, Res.bind_ok, Res.bind_er, Res.bind_bad, mVar_0, mVar_s, mVarI_0, mVarI_s, strip_ref, strip_non, strip_bl, strip_int, strip_str, strip_lst, strip_tup, strip_obj, strip_lck, strip_idn, mC, mBin, mUn, mTst, mCB, mCons, mNil, mStar, mAnd, mOr, mAndT, mOrT, mNotT, mIf, mTru, truV, mTup, mLst, ds?, ds?_map, mCall, withD, mFld, getF_o, getF_r, oNeg, oNot, oAbs, oMax, oMin, oI1, oI2, oInt, add_ii, sub_ii, lt_ii, le_ii, gt_ii, ge_ii, eq_ii, ne_ii, gN, gT_tup, gL_lst, gsC_cons, gsN_nil, List.map_cons, List.map_nil, List.length_cons, List.length_nil, List.cons_append, List.nil_append, List.append_nil, List.replicate_zero, List.replicate_succ, List.set_cons_zero, List.set_cons_succ, List.zip_cons_cons, List.zip_nil_right, List.foldl_cons, List.foldl_nil, Option.map_some, Option.map_none, Option.bind_some, Nat.reduceAdd, Nat.reduceSub, Nat.reduceEqDiff, Nat.reduceLT, Nat.reduceLeDiff, String.reduceEq, reduceCtorEq, Int.reduceLT, Int.reduceLE, Int.reduceEq, Int.reduceAdd, Int.reduceSub, Int.reduceNeg, Int.reduceMul, String.reduceBEq, decide_true, decide_false, if_true, if_false, ite_true, ite_false, Bool.false_eq_true, Bool.not_true, Bool.not_false, Bool.true_and, Bool.false_and, Bool.and_true, Bool.and_false, Bool.true_or, Bool.false_or, Bool.or_true, Bool.or_false, e1 (.int i) _ rfl, e2 (.int i) _ rfl]; rfl
  | str s => simp only [mFun_eq', mSeq_eq, mIfS, mRet, mRetN, mAsg, mPar, mExpr, mSkip, mBrk, mCnt, mBad, mRaise, outE_ok, outT_ok, outE_er, seqO_nx, seqO_rt, seqO_er, retO_rt, retO_nx, retO_er, Res.bind_ok, Res.bind_er, Res.bind_bad, mVar_0, mVar_s, mVarI_0, mVarI_s, strip_ref, strip_non, strip_bl, strip_int, strip_str, strip_lst, strip_tup, strip_obj, strip_lck, strip_idn, mC, mBin, mUn, mTst, mCB, mCons, mNil, mStar, mAnd, mOr, mAndT, mOrT, mNotT, mIf, mTru, truV, mTup, mLst, ds?, ds?_map, mCall, withD, mFld, getF_o, getF_r, oNeg, oNot, oAbs, oMax, oMin, oI1, oI2, oInt, add_ii, sub_ii, lt_ii, le_ii, gt_ii, ge_ii, eq_ii, ne_ii, gN, gT_tup, gL_lst, gsC_cons, gsN_nil, List.map_cons, List.map_nil, List.length_cons, List.length_nil, List.cons_append, List.nil_append, List.append_nil, List.replicate_zero, List.replicate_succ, List.set_cons_zero, List.set_cons_succ, List.zip_cons_cons, List.zip_nil_right, List.foldl_cons, List.foldl_nil, Option.map_some, Option.map_none, Option.bind_some, Nat.reduceAdd, Nat.reduceSub, Nat.reduceEqDiff, Nat.reduceLT, Nat.reduceLeDiff, String.reduceEq, reduceCtorEq, Int.reduceLT, Int.reduceLE, Int.reduceEq, Int.reduceAdd, Int.reduceSub, Int.reduceNeg, Int.reduceMul, String.reduceBEq, decide_true, decide_false, if_true, if_false, ite_true, ite_false, Bool.false_eq_true, Bool.not_true, Bool.not_false, Bool.true_and, Bool.false_and, Bool.and_true, Bool.and_false, Bool.true_or, Bool.false_or, Bool.or_true, Bool.or_false, e1 (.str s) _ rfl]; rfl
  | lst s => simp only [mFun_eq', mSeq_eq, mIfS, mRet, mRetN, mAsg, mPar, mExpr, mSkip, mBrk, mCnt, mBad, mRaise, outE_ok, outT_ok, outE_er, seqO_nx, seqO_rt, seqO_er, retO_rt, retO_nx, retO_er, Res.bind_ok, Res.bind_er, Res.bind_bad, mVar_0, mVar_s, mVarI_0, mVarI_s, strip_ref, strip_non, strip_bl, strip_int, strip_str, strip_lst, strip_tup, strip_obj, strip_lck, strip_idn, mC, mBin, mUn, mTst, mCB, mCons, mNil, mStar, mAnd, mOr, mAndT, mOrT, mNotT, mIf, mTru, truV, mTup, mLst, ds?, ds?_map, mCall, withD, mFld, getF_o, getF_r, oNeg, oNot, oAbs, oMax, oMin, oI1, oI2, oInt, add_ii, sub_ii, lt_ii, le_ii, gt_ii, ge_ii, eq_ii, ne_ii, gN, gT_tup, gL_lst, gsC_cons, gsN_nil, List.map_cons, List.map_nil, List.length_cons, List.length_nil, List.cons_append, List.nil_append, List.append_nil, List.replicate_zero, List.replicate_succ, List.set_cons_zero, List.set_cons_succ, List.zip_cons_cons, List.zip_nil_right, List.foldl_cons, List.foldl_nil, Option.map_some, Option.map_none, Option.bind_some, Nat.reduceAdd, Nat.reduceSub, Nat.reduceEqDiff, Nat.reduceLT, Nat.reduceLeDiff, String.reduceEq, reduceCtorEq, Int.reduceLT, Int.reduceLE, Int.reduceEq, Int.reduceAdd, Int.reduceSub, Int.reduceNeg, Int.reduceMul, String.reduceBEq, decide_true, decide_false, if_true, if_false, ite_true, ite_false, Bool.false_eq_true, Bool.not_true, Bool.not_false, Bool.true_and, Bool.false_and, Bool.and_true, Bool.and_false, Bool.true_or, Bool.false_or, Bool.or_true, Bool.or_false, e1 (.lst s) _ rfl]; rfl
  | tup s => simp only [mFun_eq', mSeq_eq, mIfS, mRet, mRetN, mAsg, mPar, mExpr, mSkip, mBrk, mCnt, mBad, mRaise, outE_ok, outT_ok, outE_er, seqO_nx, seqO_rt, seqO_er, retO_rt, retO_nx, retO_er, Res.bind_ok, Res.bind_er, Res.bind_bad, mVar_0, mVar_s, mVarI_0, mVarI_s, strip_ref, strip_non, strip_bl, strip_int, strip_str, strip_lst, strip_tup, strip_obj, strip_lck, strip_idn, mC, mBin, mUn, mTst, mCB, mCons, mNil, mStar, mAnd, mOr, mAndT, mOrT, mNotT, mIf, mTru, truV, mTup, mLst, ds?, ds?_map, mCall, withD, mFld, getF_o, getF_r, oNeg, oNot, oAbs, oMax, oMin, oI1, oI2, oInt, add_ii, sub_ii, lt_ii, le_ii, gt_ii, ge_ii, eq_ii, ne_ii, gN, gT_tup, gL_lst, gsC_cons, gsN_nil, List.map_cons, List.map_nil, List.length_cons, List.length_nil, List.cons_append, List.nil_append, List.append_nil, List.replicate_zero, List.replicate_succ, List.set_cons_zero, List.set_cons_succ, List.zip_cons_cons, List.zip_nil_right, List.foldl_cons, List.foldl_nil, Option.map_some, Option.map_none, Option.bind_some, Nat.reduceAdd, Nat.reduceSub, Nat.reduceEqDiff, Nat.reduceLT, Nat.reduceLeDiff, String.reduceEq, reduceCtorEq, Int.reduceLT, Int.reduceLE, Int.reduceEq, Int.reduceAdd, Int.reduceSub, Int.reduceNeg, Int.reduceMul, String.reduceBEq, decide_true, decide_false, if_true, if_false, ite_true, ite_false, Bool.false_eq_true, Bool.not_true, Bool.not_false, Bool.true_and, Bool.false_and, Bool.and_true, Bool.and_false, Bool.true_or, Bool.false_or, Bool.or_true, Bool.or_false, e1 (.tup s) _ rfl]; rfl
  | obj c fs =>
    have e3 : oIsi [.d (.obj c fs), .d (.ty "int")] st = .ok (.d (.bl false)) st := isi_ty (g := .cl c) rfl rfl
    simp only [mFun_eq', mSeq_eq, mIfS, mRet, mRetN, mAsg, mPar, mExpr, mSkip, mBrk, mCnt, mBad, mRaise, outE_ok, outT_ok, outE_er, seqO_nx, seqO_rt, seqO_er, retO_rt, retO_nx, retO_er, Res.bind_ok, Res.bind_er, Res.bind_bad, mVar_0, mVar_s, mVarI_0, mVarI_s, strip_ref, strip_non, strip_bl, strip_int, strip_str, strip_lst, strip_tup, strip_obj, strip_lck, strip_idn, mC, mBin, mUn, mTst, mCB, mCons, mNil, mStar, mAnd, mOr, mAndT, mOrT, mNotT, mIf, mTru, truV, mTup, mLst, ds?, ds?_map, mCall, withD, mFld, getF_o, getF_r, oNeg, oNot, oAbs, oMax, oMin, oI1, oI2, oInt, add_ii, sub_ii, lt_ii, le_ii, gt_ii, ge_ii, eq_ii, ne_ii, gN, gT_tup, gL_lst, gsC_cons, gsN_nil, List.map_cons, List.map_nil, List.length_cons, List.length_nil, List.cons_append, List.nil_append, List.append_nil, List.replicate_zero, List.replicate_succ, List.set_cons_zero, List.set_cons_succ, List.zip_cons_cons, List.zip_nil_right, List.foldl_cons, List.foldl_nil, Option.map_some, Option.map_none, Option.bind_some, Nat.reduceAdd, Nat.reduceSub, Nat.reduceEqDiff, Nat.reduceLT, Nat.reduceLeDiff, String.reduceEq, reduceCtorEq, Int.reduceLT, Int.reduceLE, Int.reduceEq, Int.reduceAdd, Int.reduceSub, Int.reduceNeg, Int.reduceMul, String.reduceBEq, decide_true, decide_false, if_true, if_false, ite_true, ite_false, Bool.false_eq_true, Bool.not_true, Bool.not_false, Bool.true_and, Bool.false_and, Bool.and_true, Bool.and_false, Bool.true_or, Bool.false_or, Bool.or_true, Bool.or_false, e3]
    rfl
  | _ => cases hx
theorem pIsInt {x : D} (hx : okV x = true) (st : Sto) : pureF gIsInt [.d x] st = .ok (.d (.bl (isI x))) st := pureF_d rfl (isInt_ok hx [])
/-! greatest_divisor -/
noncomputable def gGcd : MF := mFun 2 2 (mSeq (mPar [0, 1] (mCons (mCB oAbs (mCons (mVar 0) mNil)) (mCons (mCB oAbs (mCons (mVar 1) mNil)) mNil)))
      (mSeq (mWhile (mTst (mBin oGt (mVar 1) (mC (.int 0))))
      (mPar [0, 1] (mCons (mVar 1) (mCons (mBin oMod (mVar 0) (mVar 1)) mNil))))
      (mRet (mVar 0))))
theorem gcd_ok (a b : Int) (st : Sto) : gGcd [.d (.int a), .d (.int b)] st = .ok (.d (.int (Int.gcd a b))) st := by
  have ab : ∀ i : Int, (if i < 0 then -i else i) = (i.natAbs : Int) := fun i => by split <;> omega
  have w : ∃ ρ1 st1, mWhile (mTst (mBin oGt (mVar 1) (mC (.int 0)))) (mPar [0, 1] (mCons (mVar 1) (mCons (mBin oMod (mVar 0) (mVar 1)) mNil))) [some (.d (.int a.natAbs)), some (.d (.int b.natAbs))] st = .nx ρ1 st1 ∧ (st1 = st ∧ ρ1 = [some (.d (.int (Int.gcd a b))), some (.d (.int 0))]) := by
    refine mWhile_inv (I := fun n ρ st1 => st1 = st ∧ ∃ x : Nat, ρ = [some (.d (.int x)), some (.d (.int n))] ∧ Nat.gcd x n = Int.gcd a b) (Q := fun ρ1 st1 => st1 = st ∧ ρ1 = [some (.d (.int (Int.gcd a b))), some (.d (.int 0))]) ?_ (n := b.natAbs) ⟨rfl, a.natAbs, rfl, rfl⟩
    rintro n ρ st1 ⟨rfl, x, rfl, e⟩
    by_cases q : n = 0
    · subst q
      left
      refine ⟨by simp only [mFun_eq', mSeq_eq, mIfS, mRet, mRetN, mAsg, mPar, mExpr, mSkip, mBrk, mCnt, mBad, mRaise, outE_ok, outT_ok, outE_er, seqO_nx, seqO_rt, seqO_er, retO_rt, retO_nx, retO_er, Res.bind_ok, Res.bind_er, Res.bind_bad, mVar_0, mVar_s, mVarI_0, mVarI_s, strip_ref, strip_non, strip_bl, strip_int, strip_str, strip_lst, strip_tup, strip_obj, strip_lck, strip_idn, mC, mBin, mUn, mTst, mCB, mCons, mNil, mStar, mAnd, mOr, mAndT, mOrT, mNotT, mIf, mTru, truV, mTup, mLst, ds?, ds?_map, mCall, withD, mFld, getF_o, getF_r, oNeg, oNot, oAbs, oMax, oMin, oI1, oI2, oInt, add_ii, sub_ii, lt_ii, le_ii, gt_ii, ge_ii, eq_ii, ne_ii, gN, gT_tup, gL_lst, gsC_cons, gsN_nil, List.map_cons, List.map_nil, List.length_cons, List.length_nil, List.cons_append, List.nil_append, List.append_nil, List.replicate_zero, List.replicate_succ, List.set_cons_zero, List.set_cons_succ, List.zip_cons_cons, List.zip_nil_right, List.foldl_cons, List.foldl_nil, Option.map_some, Option.map_none, Option.bind_some, Nat.reduceAdd, Nat.reduceSub, Nat.reduceEqDiff, Nat.reduceLT, Nat.reduceLeDiff, String.reduceEq, reduceCtorEq, Int.reduceLT, Int.reduceLE, Int.reduceEq, Int.reduceAdd, Int.reduceSub, Int.reduceNeg, Int.reduceMul, String.reduceBEq, decide_true, decide_false, if_true, if_false, ite_true, ite_false, Bool.false_eq_true, Bool.not_true, Bool.not_false, Bool.true_and, Bool.false_and, Bool.and_true, Bool.and_false, Bool.true_or, Bool.false_or, Bool.or_true, Bool.or_false]; rfl, rfl, ?_⟩
      rw [← e, Nat.gcd_zero_right]
      rfl
    · right
      have a1 := mod_ok (i := x) (j := n) st1 (by omega)
      have q2 : decide ((0 : Int) < n) = true := decide_eq_true (by omega)
      refine ⟨st1, [some (.d (.int n)), some (.d (.int ((x % n : Nat) : Int)))], st1, x % n, by simp only [mFun_eq', mSeq_eq, mIfS, mRet, mRetN, mAsg, mPar, mExpr, mSkip, mBrk, mCnt, mBad, mRaise, outE_ok, outT_ok, outE_er, seqO_nx, seqO_rt, seqO_er, retO_rt, retO_nx, retO_er, Res.bind_ok, Res.bind_er, Res.bind_bad, mVar_0, mVar_s, mVarI_0, mVarI_s, strip_ref, strip_non, strip_bl, strip_int, strip_str, strip_lst, strip_tup, strip_obj, strip_lck, strip_idn, mC, mBin, mUn, mTst, mCB, mCons, mNil, mStar, mAnd, mOr, mAndT, mOrT, mNotT, mIf, mTru, truV, mTup, mLst, ds?, ds?_map, mCall, withD, mFld, getF_o, getF_r, oNeg, oNot, oAbs, oMax, oMin, oI1, oI2, oInt, add_ii, sub_ii, lt_ii, le_ii, gt_ii, ge_ii, eq_ii, ne_ii, gN, gT_tup, gL_lst, gsC_cons, gsN_nil, List.map_cons, List.map_nil, List.length_cons, List.length_nil, List.cons_append, List.nil_append, List.append_nil, List.replicate_zero, List.replicate_succ, List.set_cons_zero, List.set_cons_succ, List.zip_cons_cons, List.zip_nil_right, List.foldl_cons, List.foldl_nil, Option.map_some, Option.map_none, Option.bind_some, Nat.reduceAdd, Nat.reduceSub, Nat.reduceEqDiff, Nat.reduceLT, Nat.reduceLeDiff, String.reduceEq, reduceCtorEq, Int.reduceLT, Int.reduceLE, Int.reduceEq, Int.reduceAdd, Int.reduceSub, Int.reduceNeg, Int.reduceMul, String.reduceBEq, decide_true, decide_false, if_true, if_false, ite_true, ite_false, Bool.false_eq_true, Bool.not_true, Bool.not_false, Bool.true_and, Bool.false_and, Bool.and_true, Bool.and_false, Bool.true_or, Bool.false_or, Bool.or_true, Bool.or_false, q2], ?_, Nat.mod_lt _ (by omega), rfl, n, rfl, ?_⟩
      · simp only [mFun_eq', mSeq_eq, mIfS, mRet, mRetN, mAsg, mPar, mExpr, mSkip, mBrk, mCnt, mBad, mRaise, outE_ok, outT_ok, outE_er, seqO_nx, seqO_rt, seqO_er, retO_rt, retO_nx, retO_er, Res.bind_ok, Res.bind_er, Res.bind_bad, mVar_0, mVar_s, mVarI_0, mVarI_s, strip_ref, strip_non, strip_bl, strip_int, strip_str, strip_lst, strip_tup, strip_obj, strip_lck, strip_idn, mC, mBin, mUn, mTst, mCB, mCons, mNil, mStar, mAnd, mOr, mAndT, mOrT, mNotT, mIf, mTru, truV, mTup, mLst, ds?, ds?_map, mCall, withD, mFld, getF_o, getF_r, oNeg, oNot, oAbs, oMax, oMin, oI1, oI2, oInt, add_ii, sub_ii, lt_ii, le_ii, gt_ii, ge_ii, eq_ii, ne_ii, gN, gT_tup, gL_lst, gsC_cons, gsN_nil, List.map_cons, List.map_nil, List.length_cons, List.length_nil, List.cons_append, List.nil_append, List.append_nil, List.replicate_zero, List.replicate_succ, List.set_cons_zero, List.set_cons_succ, List.zip_cons_cons, List.zip_nil_right, List.foldl_cons, List.foldl_nil, Option.map_some, Option.map_none, Option.bind_some, Nat.reduceAdd, Nat.reduceSub, Nat.reduceEqDiff, Nat.reduceLT, Nat.reduceLeDiff, String.reduceEq, reduceCtorEq, Int.reduceLT, Int.reduceLE, Int.reduceEq, Int.reduceAdd, Int.reduceSub, Int.reduceNeg, Int.reduceMul, String.reduceBEq, decide_true, decide_false, if_true, if_false, ite_true, ite_false, Bool.false_eq_true, Bool.not_true, Bool.not_false, Bool.true_and, Bool.false_and, Bool.and_true, Bool.and_false, Bool.true_or, Bool.false_or, Bool.or_true, Bool.or_false, a1]
        rw [Int.fmod_eq_emod_of_nonneg _ (by omega)]
        rfl
      · rw [← e, Nat.gcd_comm x n, Nat.gcd_rec n x]
        exact Nat.gcd_comm _ _
  obtain ⟨ρ1, st1, h1, rfl, rfl⟩ := w
  unfold gGcd
  simp only [mFun_eq', mSeq_eq, mIfS, mRet, mRetN, mAsg, mPar, mExpr, mSkip, mBrk, mCnt, mBad, mRaise, outE_ok, outT_ok, outE_er, seqO_nx, seqO_rt, seqO_er, retO_rt, retO_nx, retO_er, Res.bind_ok, Res.bind_er, Res.bind_bad, mVar_0, mVar_s, mVarI_0, mVarI_s, strip_ref, strip_non, strip_bl, strip_int, strip_str, strip_lst, strip_tup, strip_obj, strip_lck, strip_idn, mC, mBin, mUn, mTst, mCB, mCons, mNil, mStar, mAnd, mOr, mAndT, mOrT, mNotT, mIf, mTru, truV, mTup, mLst, ds?, ds?_map, mCall, withD, mFld, getF_o, getF_r, oNeg, oNot, oAbs, oMax, oMin, oI1, oI2, oInt, add_ii, sub_ii, lt_ii, le_ii, gt_ii, ge_ii, eq_ii, ne_ii, gN, gT_tup, gL_lst, gsC_cons, gsN_nil, List.map_cons, List.map_nil, List.length_cons, List.length_nil, List.cons_append, List.nil_append, List.append_nil, List.replicate_zero, List.replicate_succ, List.set_cons_zero, List.set_cons_succ, List.zip_cons_cons, List.zip_nil_right, List.foldl_cons, List.foldl_nil, Option.map_some, Option.map_none, Option.bind_some, Nat.reduceAdd, Nat.reduceSub, Nat.reduceEqDiff, Nat.reduceLT, Nat.reduceLeDiff, String.reduceEq, reduceCtorEq, Int.reduceLT, Int.reduceLE, Int.reduceEq, Int.reduceAdd, Int.reduceSub, Int.reduceNeg, Int.reduceMul, String.reduceBEq, decide_true, decide_false, if_true, if_false, ite_true, ite_false, Bool.false_eq_true, Bool.not_true, Bool.not_false, Bool.true_and, Bool.false_and, Bool.and_true, Bool.and_false, Bool.true_or, Bool.false_or, Bool.or_true, Bool.or_false, ab, h1]
theorem pGcd (a b : Int) (st : Sto) : pureF gGcd [.d (.int a), .d (.int b)] st = .ok (.d (.int (Int.gcd a b))) st := pureF_d rfl (gcd_ok a b [])
/-! Ratio(top, bottom) -/
noncomputable def gRatio : MF := mFun 3 5 (mSeq (mFor (mItS (mTup (mCons (mVar 1) (mCons (mVar 2) mNil)))) (gN 3)
      (mIfS (mNotT (mTru (mCall (withD [] (pureF gIsInt)) (mCons (mVar 3) mNil)))) (mRaise "InvalidRatio" ["value"] (mCons (mVar 3) mNil)) mSkip))
      (mSeq (mIfS (mTst (mBin oEq (mVar 2) (mC (.int 0)))) mBad mSkip)
      (mSeq (mAsg (mCall (withD [] (pureF gGcd)) (mCons (mVar 1) (mCons (mVar 2) mNil))) (gN 4))
      (mSeq (mIfS (mTst (mBin oLt (mVar 2) (mC (.int 0)))) (mAsg (mUn oNeg (mVar 4)) (gN 4)) mSkip)
      (mSeq (mSetF "own_top" (mVar 0) (mBin oFdiv (mVar 1) (mVar 4)))
      (mSetF "own_bottom" (mVar 0) (mBin oFdiv (mVar 2) (mVar 4))))))))
/-- what both parts are divided by -/
def sgd (t b : Int) : Int := if b < 0 then -(Int.gcd t b : Int) else Int.gcd t b
def ratD (p q : Int) : D := .obj "Ratio" [("own_top", .int p), ("own_bottom", .int q)]
theorem ratio_init {t b : Int} (hb : b ≠ 0) (hd : (Int.gcd t b).log2 < 9000) : gRatio [.ref 0, .d (.int t), .d (.int b)] [.obj "Ratio" []] = .ok (.d .non) [.obj "Ratio" [("own_top", .d (.int (t.fdiv (sgd t b)))), ("own_bottom", .d (.int (b.fdiv (sgd t b))))]] := by
  have g0 : Int.gcd t b ≠ 0 := fun z => hb (Int.gcd_eq_zero_iff.mp z).2
  have hs : sgd t b ≠ 0 ∧ (sgd t b).natAbs = Int.gcd t b := by unfold sgd; split <;> omega
  have cd : ∀ i, CDivX i (sgd t b) := fun i => ⟨hs.1, by rw [hs.2]; exact hd⟩
  have a1 := fun st => fdiv_ok (i := t) st (cd t)
  have a2 := fun st => fdiv_ok (i := b) st (cd b)
  have p1 := fun st => pIsInt (x := .int t) rfl st
  have p2 := fun st => pIsInt (x := .int b) rfl st
  have f1 : mFor (mItS (mTup (mCons (mVar 1) (mCons (mVar 2) mNil)))) (gN 3)
      (mIfS (mNotT (mTru (mCall (withD [] (pureF gIsInt)) (mCons (mVar 3) mNil)))) (mRaise "InvalidRatio" ["value"] (mCons (mVar 3) mNil)) mSkip) [some (.ref 0), some (.d (.int t)), some (.d (.int b)), none, none] [.obj "Ratio" []] = .nx [some (.ref 0), some (.d (.int t)), some (.d (.int b)), some (.d (.int b)), none] [.obj "Ratio" []] := by
    rw [mFor_eq (itS_tup (xs := [.int t, .int b]) (by simp only [mFun_eq', mSeq_eq, mIfS, mRet, mRetN, mAsg, mPar, mExpr, mSkip, mBrk, mCnt, mBad, mRaise, outE_ok, outT_ok, outE_er, seqO_nx, seqO_rt, seqO_er, retO_rt, retO_nx, retO_er, Res.bind_ok, Res.bind_er, Res.bind_bad, mVar_0, mVar_s, mVarI_0, mVarI_s, strip_ref, strip_non, strip_bl, strip_int, strip_str, strip_lst, strip_tup, strip_obj, strip_lck, strip_idn, mC, mBin, mUn, mTst, mCB, mCons, mNil, mStar, mAnd, mOr, mAndT, mOrT, mNotT, mIf, mTru, truV, mTup, mLst, ds?, ds?_map, mCall, withD, mFld, getF_o, getF_r, oNeg, oNot, oAbs, oMax, oMin, oI1, oI2, oInt, add_ii, sub_ii, lt_ii, le_ii, gt_ii, ge_ii, eq_ii, ne_ii, gN, gT_tup, gL_lst, gsC_cons, gsN_nil, List.map_cons, List.map_nil, List.length_cons, List.length_nil, List.cons_append, List.nil_append, List.append_nil, List.replicate_zero, List.replicate_succ, List.set_cons_zero, List.set_cons_succ, List.zip_cons_cons, List.zip_nil_right, List.foldl_cons, List.foldl_nil, Option.map_some, Option.map_none, Option.bind_some, Nat.reduceAdd, Nat.reduceSub, Nat.reduceEqDiff, Nat.reduceLT, Nat.reduceLeDiff, String.reduceEq, reduceCtorEq, Int.reduceLT, Int.reduceLE, Int.reduceEq, Int.reduceAdd, Int.reduceSub, Int.reduceNeg, Int.reduceMul, String.reduceBEq, decide_true, decide_false, if_true, if_false, ite_true, ite_false, Bool.false_eq_true, Bool.not_true, Bool.not_false, Bool.true_and, Bool.false_and, Bool.and_true, Bool.and_false, Bool.true_or, Bool.false_or, Bool.or_true, Bool.or_false]; rfl))]
    simp only [mFun_eq', mSeq_eq, mIfS, mRet, mRetN, mAsg, mPar, mExpr, mSkip, mBrk, mCnt, mBad, mRaise, outE_ok, outT_ok, outE_er, seqO_nx, seqO_rt, seqO_er, retO_rt, retO_nx, retO_er, Res.bind_ok, Res.bind_er, Res.bind_bad, mVar_0, mVar_s, mVarI_0, mVarI_s, strip_ref, strip_non, strip_bl, strip_int, strip_str, strip_lst, strip_tup, strip_obj, strip_lck, strip_idn, mC, mBin, mUn, mTst, mCB, mCons, mNil, mStar, mAnd, mOr, mAndT, mOrT, mNotT, mIf, mTru, truV, mTup, mLst, ds?, ds?_map, mCall, withD, mFld, getF_o, getF_r, oNeg, oNot, oAbs, oMax, oMin, oI1, oI2, oInt, add_ii, sub_ii, lt_ii, le_ii, gt_ii, ge_ii, eq_ii, ne_ii, gN, gT_tup, gL_lst, gsC_cons, gsN_nil, List.map_cons, List.map_nil, List.length_cons, List.length_nil, List.cons_append, List.nil_append, List.append_nil, List.replicate_zero, List.replicate_succ, List.set_cons_zero, List.set_cons_succ, List.zip_cons_cons, List.zip_nil_right, List.foldl_cons, List.foldl_nil, Option.map_some, Option.map_none, Option.bind_some, Nat.reduceAdd, Nat.reduceSub, Nat.reduceEqDiff, Nat.reduceLT, Nat.reduceLeDiff, String.reduceEq, reduceCtorEq, Int.reduceLT, Int.reduceLE, Int.reduceEq, Int.reduceAdd, Int.reduceSub, Int.reduceNeg, Int.reduceMul, String.reduceBEq, decide_true, decide_false, if_true, if_false, ite_true, ite_false, Bool.false_eq_true, Bool.not_true, Bool.not_false, Bool.true_and, Bool.false_and, Bool.and_true, Bool.and_false, Bool.true_or, Bool.false_or, Bool.or_true, Bool.or_false, forM_cons', forM_nil', loopO_nx, p1, p2, isI]
  have q0 : decide (b = 0) = false := decide_eq_false hb
  unfold gRatio
  by_cases q : b < 0
  · have es : sgd t b = -(Int.gcd t b : Int) := if_pos q
    rw [es] at a1 a2
    simp only [mFun_eq', mSeq_eq, mIfS, mRet, mRetN, mAsg, mPar, mExpr, mSkip, mBrk, mCnt, mBad, mRaise, outE_ok, outT_ok, outE_er, seqO_nx, seqO_rt, seqO_er, retO_rt, retO_nx, retO_er, Res.bind_ok, Res.bind_er, Res.bind_bad, mVar_0, mVar_s, mVarI_0, mVarI_s, strip_ref, strip_non, strip_bl, strip_int, strip_str, strip_lst, strip_tup, strip_obj, strip_lck, strip_idn, mC, mBin, mUn, mTst, mCB, mCons, mNil, mStar, mAnd, mOr, mAndT, mOrT, mNotT, mIf, mTru, truV, mTup, mLst, ds?, ds?_map, mCall, withD, mFld, getF_o, getF_r, oNeg, oNot, oAbs, oMax, oMin, oI1, oI2, oInt, add_ii, sub_ii, lt_ii, le_ii, gt_ii, ge_ii, eq_ii, ne_ii, gN, gT_tup, gL_lst, gsC_cons, gsN_nil, List.map_cons, List.map_nil, List.length_cons, List.length_nil, List.cons_append, List.nil_append, List.append_nil, List.replicate_zero, List.replicate_succ, List.set_cons_zero, List.set_cons_succ, List.zip_cons_cons, List.zip_nil_right, List.foldl_cons, List.foldl_nil, Option.map_some, Option.map_none, Option.bind_some, Nat.reduceAdd, Nat.reduceSub, Nat.reduceEqDiff, Nat.reduceLT, Nat.reduceLeDiff, String.reduceEq, reduceCtorEq, Int.reduceLT, Int.reduceLE, Int.reduceEq, Int.reduceAdd, Int.reduceSub, Int.reduceNeg, Int.reduceMul, String.reduceBEq, decide_true, decide_false, if_true, if_false, ite_true, ite_false, Bool.false_eq_true, Bool.not_true, Bool.not_false, Bool.true_and, Bool.false_and, Bool.and_true, Bool.and_false, Bool.true_or, Bool.false_or, Bool.or_true, Bool.or_false, f1, q0, pGcd, q, decide_true, mSetF, a1, a2, es, List.getElem?_cons_zero, putS]
  · have es : sgd t b = (Int.gcd t b : Int) := if_neg q
    rw [es] at a1 a2
    simp only [mFun_eq', mSeq_eq, mIfS, mRet, mRetN, mAsg, mPar, mExpr, mSkip, mBrk, mCnt, mBad, mRaise, outE_ok, outT_ok, outE_er, seqO_nx, seqO_rt, seqO_er, retO_rt, retO_nx, retO_er, Res.bind_ok, Res.bind_er, Res.bind_bad, mVar_0, mVar_s, mVarI_0, mVarI_s, strip_ref, strip_non, strip_bl, strip_int, strip_str, strip_lst, strip_tup, strip_obj, strip_lck, strip_idn, mC, mBin, mUn, mTst, mCB, mCons, mNil, mStar, mAnd, mOr, mAndT, mOrT, mNotT, mIf, mTru, truV, mTup, mLst, ds?, ds?_map, mCall, withD, mFld, getF_o, getF_r, oNeg, oNot, oAbs, oMax, oMin, oI1, oI2, oInt, add_ii, sub_ii, lt_ii, le_ii, gt_ii, ge_ii, eq_ii, ne_ii, gN, gT_tup, gL_lst, gsC_cons, gsN_nil, List.map_cons, List.map_nil, List.length_cons, List.length_nil, List.cons_append, List.nil_append, List.append_nil, List.replicate_zero, List.replicate_succ, List.set_cons_zero, List.set_cons_succ, List.zip_cons_cons, List.zip_nil_right, List.foldl_cons, List.foldl_nil, Option.map_some, Option.map_none, Option.bind_some, Nat.reduceAdd, Nat.reduceSub, Nat.reduceEqDiff, Nat.reduceLT, Nat.reduceLeDiff, String.reduceEq, reduceCtorEq, Int.reduceLT, Int.reduceLE, Int.reduceEq, Int.reduceAdd, Int.reduceSub, Int.reduceNeg, Int.reduceMul, String.reduceBEq, decide_true, decide_false, if_true, if_false, ite_true, ite_false, Bool.false_eq_true, Bool.not_true, Bool.not_false, Bool.true_and, Bool.false_and, Bool.and_true, Bool.and_false, Bool.true_or, Bool.false_or, Bool.or_true, Bool.or_false, f1, q0, pGcd, q, decide_false, mSetF, a1, a2, es, List.getElem?_cons_zero, putS]
theorem ratio_ok {t b : Int} (st : Sto) (hb : b ≠ 0) (hd : (Int.gcd t b).log2 < 9000) : makeP "Ratio" (withD [] gRatio) [.d (.int t), .d (.int b)] st = .ok (.d (ratD (t.fdiv (sgd t b)) (b.fdiv (sgd t b)))) st := by
  have h := ratio_init (t := t) (b := b) hb hd
  unfold makeP
  simp only [mFun_eq', mSeq_eq, mIfS, mRet, mRetN, mAsg, mPar, mExpr, mSkip, mBrk, mCnt, mBad, mRaise, outE_ok, outT_ok, outE_er, seqO_nx, seqO_rt, seqO_er, retO_rt, retO_nx, retO_er, Res.bind_ok, Res.bind_er, Res.bind_bad, mVar_0, mVar_s, mVarI_0, mVarI_s, strip_ref, strip_non, strip_bl, strip_int, strip_str, strip_lst, strip_tup, strip_obj, strip_lck, strip_idn, mC, mBin, mUn, mTst, mCB, mCons, mNil, mStar, mAnd, mOr, mAndT, mOrT, mNotT, mIf, mTru, truV, mTup, mLst, ds?, ds?_map, mCall, withD, mFld, getF_o, getF_r, oNeg, oNot, oAbs, oMax, oMin, oI1, oI2, oInt, add_ii, sub_ii, lt_ii, le_ii, gt_ii, ge_ii, eq_ii, ne_ii, gN, gT_tup, gL_lst, gsC_cons, gsN_nil, List.map_cons, List.map_nil, List.length_cons, List.length_nil, List.cons_append, List.nil_append, List.append_nil, List.replicate_zero, List.replicate_succ, List.set_cons_zero, List.set_cons_succ, List.zip_cons_cons, List.zip_nil_right, List.foldl_cons, List.foldl_nil, Option.map_some, Option.map_none, Option.bind_some, Nat.reduceAdd, Nat.reduceSub, Nat.reduceEqDiff, Nat.reduceLT, Nat.reduceLeDiff, String.reduceEq, reduceCtorEq, Int.reduceLT, Int.reduceLE, Int.reduceEq, Int.reduceAdd, Int.reduceSub, Int.reduceNeg, Int.reduceMul, String.reduceBEq, decide_true, decide_false, if_true, if_false, ite_true, ite_false, Bool.false_eq_true, Bool.not_true, Bool.not_false, Bool.true_and, Bool.false_and, Bool.and_true, Bool.and_false, Bool.true_or, Bool.false_or, Bool.or_true, Bool.or_false, h]
  rfl
/-- the fraction is kept, its bottom is above 0 and divides the first one -/
theorem sgd_spec {t b : Int} (hb : b ≠ 0) : t.fdiv (sgd t b) * b = t * b.fdiv (sgd t b) ∧ 0 < b.fdiv (sgd t b) ∧ sgd t b * b.fdiv (sgd t b) = b ∧ sgd t b * t.fdiv (sgd t b) = t ∧ Int.gcd (t.fdiv (sgd t b)) (b.fdiv (sgd t b)) = 1 := by
  have g0 : Int.gcd t b ≠ 0 := fun z => hb (Int.gcd_eq_zero_iff.mp z).2
  obtain ⟨p, hp⟩ := Int.gcd_dvd_left t b
  obtain ⟨r, hr⟩ := Int.gcd_dvd_right t b
  have g1 : (0 : Int) < Int.gcd t b := by omega
  have hg : Int.gcd p r = 1 := by
    have e : Int.gcd t b = Int.gcd (Int.gcd t b * p) (Int.gcd t b * r) := by rw [← hp, ← hr]
    rw [Int.gcd_mul_left] at e
    simp only [Int.natAbs_natCast] at e
    exact Nat.eq_of_mul_eq_mul_left (by omega : 0 < Int.gcd t b) (by omega)
  have key : ∀ g t p : Int, g ≠ 0 → t = g * p → t.fdiv g = p := fun g t p h e => by
    rw [e]
    exact Int.mul_fdiv_cancel_left _ h
  by_cases q : b < 0
  · have es : sgd t b = -(Int.gcd t b : Int) := if_pos q
    have e1 : t.fdiv (sgd t b) = -p := key _ _ _ (by omega) (by rw [es]; grind)
    have e2 : b.fdiv (sgd t b) = -r := key _ _ _ (by omega) (by rw [es]; grind)
    rw [e1, e2, es]
    refine ⟨by grind, ?_, by grind, by grind, by rw [Int.gcd_neg, Int.neg_gcd]; exact hg⟩
    have : r < 0 := Int.not_le.mp fun z => by
      have := Int.mul_nonneg (Int.le_of_lt g1) z
      omega
    omega
  · have es : sgd t b = (Int.gcd t b : Int) := if_neg q
    have e1 : t.fdiv (sgd t b) = p := key _ _ _ (by omega) (by rw [es]; exact hp)
    have e2 : b.fdiv (sgd t b) = r := key _ _ _ (by omega) (by rw [es]; exact hr)
    rw [e1, e2, es]
    refine ⟨by grind, ?_, by grind, by grind, hg⟩
    exact Int.not_le.mp fun z => by
      have := Int.mul_nonpos_of_nonneg_of_nonpos (Int.le_of_lt g1) z
      omega

/-! M16: loops as folds; sizes of integers -/
theorem forM_fold {α β : Type} {g : α → Va} {S : β → Ev → Sto → Prop} {step : β → α → β} {tg : MG} {b : MS} : ∀ {l : List α} {b0 : β} {ρ : Ev} {st : Sto}, S b0 ρ st →
    (∀ l1 x l2, l = l1 ++ x :: l2 → ∀ ρ st, S (l1.foldl step b0) ρ st → ∃ ρ1 ρ2 st2, tg (g x) ρ = some ρ1 ∧ b ρ1 st = .nx ρ2 st2 ∧ S (step (l1.foldl step b0) x) ρ2 st2) →
    ∃ ρ1 st1, forM none tg b (l.map g) ρ st = .nx ρ1 st1 ∧ S (l.foldl step b0) ρ1 st1
  | [], b0, ρ, st, h, _ => ⟨ρ, st, forM_nil' .., h⟩
  | x :: l, b0, ρ, st, h, hb => by
    obtain ⟨ρ1, ρ2, st2, h1, h2, h3⟩ := hb [] x l rfl ρ st h
    obtain ⟨ρ3, st3, h4, h5⟩ := forM_fold (l := l) (b0 := step b0 x) (S := S) (step := step) (g := g) (tg := tg) (b := b) h3 fun l1 y l2 e ρ st hs => hb (x :: l1) y l2 (by rw [e]; rfl) ρ st hs
    refine ⟨ρ3, st3, ?_, h5⟩
    rw [List.map_cons, forM_cons', h1]
    simp only [h2, loopO_nx, h4]
theorem mFor_fold {α β : Type} {g : α → Va} (S : β → Ev → Sto → Prop) (step : β → α → β) {mi : MI} {tg : MG} {b : MS} (l : List α) (b0 : β) {ρ : Ev} {st st0 : Sto} (h : mi ρ st = .ok ⟨l.map g, none⟩ st0) (hs : S b0 ρ st0)
    (hb : ∀ l1 x l2, l = l1 ++ x :: l2 → ∀ ρ st, S (l1.foldl step b0) ρ st → ∃ ρ1 ρ2 st2, tg (g x) ρ = some ρ1 ∧ b ρ1 st = .nx ρ2 st2 ∧ S (step (l1.foldl step b0) x) ρ2 st2) :
    ∃ ρ1 st1, mFor mi tg b ρ st = .nx ρ1 st1 ∧ S (l.foldl step b0) ρ1 st1 := by
  rw [mFor_eq h]
  exact forM_fold hs hb
/-! sizes -/
def Bd (k : Nat) (i : Int) : Prop := i.natAbs < 2 ^ k
theorem Bd.mono {k m : Nat} {i : Int} (h : Bd k i) (le : k ≤ m) : Bd m i := Nat.lt_of_lt_of_le h (Nat.pow_le_pow_right (by decide) le)
theorem Bd.mul {a b : Nat} {i j : Int} (h : Bd a i) (h2 : Bd b j) : Bd (a + b) (i * j) := by
  unfold Bd at *
  rw [Int.natAbs_mul, Nat.pow_add]
  by_cases z : j.natAbs = 0
  · rw [z, Nat.mul_zero]
    exact Nat.mul_pos (Nat.two_pow_pos a) (Nat.two_pow_pos b)
  · exact Nat.mul_lt_mul_of_lt_of_le h (Nat.le_of_lt h2) (by omega)
theorem Bd.add {a : Nat} {i j : Int} (h : Bd a i) (h2 : Bd a j) : Bd (a + 1) (i + j) := by
  unfold Bd at *
  rw [Nat.pow_succ]
  omega
theorem Bd.zero {a : Nat} : Bd a 0 := Nat.two_pow_pos a
theorem Bd.neg {a : Nat} {i : Int} (h : Bd a i) : Bd a (-i) := by unfold Bd; rw [Int.natAbs_neg]; exact h
theorem Bd.log2 {a : Nat} {i : Int} (h : Bd a i) : i.natAbs.log2 ≤ a := by
  by_cases z : i.natAbs = 0
  · rw [z]; exact Nat.zero_le _
  · exact Nat.le_of_lt ((Nat.log2_lt z).mpr h)
theorem Bd.cmul {a b : Nat} {i j : Int} (h : Bd a i) (h2 : Bd b j) (hl : a + b < 1000000) : CMulW i j := by
  have := h.log2
  have := h2.log2
  unfold CMulW
  omega
theorem Bd.cdiv {a : Nat} {i j : Int} (h : Bd a j) (h0 : j ≠ 0) (hl : a < 9000) : CDivX i j := ⟨h0, by have := h.log2; omega⟩
theorem Bd.dvd {a : Nat} {i j : Int} (h : Bd a j) (d : i ∣ j) (h0 : j ≠ 0) : Bd a i := Nat.lt_of_le_of_lt (Nat.le_of_dvd (by omega) (Int.natAbs_dvd_natAbs.mpr d)) h
theorem Bd.sum {a n : Nat} : ∀ {l : List Int}, l.length ≤ 2 ^ n → (∀ x ∈ l, Bd a x) → Bd (a + n) l.sum := by
  have key : ∀ {l : List Int}, (∀ x ∈ l, Bd a x) → l.sum.natAbs ≤ l.length * (2 ^ a - 1) := fun {l} => by
    induction l with
    | nil => intro _; simp
    | cons x l ih =>
      intro h
      have h1 := ih fun y hy => h y (List.mem_cons_of_mem _ hy)
      have h2 : x.natAbs < 2 ^ a := h x (List.mem_cons_self ..)
      rw [List.sum_cons, List.length_cons, Nat.add_mul]
      have := Int.natAbs_add_le x l.sum
      omega
  intro l hl h
  have h1 := key h
  unfold Bd
  have p := Nat.two_pow_pos a
  have : l.length * (2 ^ a - 1) ≤ 2 ^ n * (2 ^ a - 1) := Nat.mul_le_mul_right _ hl
  have q : 2 ^ n * (2 ^ a - 1) < 2 ^ n * 2 ^ a := Nat.mul_lt_mul_of_pos_left (by omega) (Nat.two_pow_pos n)
  rw [Nat.pow_add, Nat.mul_comm (2 ^ a)]
  omega
theorem sum_ints {α : Type} (l : List α) (f : α → Int) (st : Sto) : oSum [.d (.lst (l.map fun y => .int (f y)))] st = .ok (.d (.int (l.map f).sum)) st := by
  unfold oSum oL1
  simp only [lst?]
  rw [show (l.map fun y => D.int (f y)) = (l.map f).map D.int by rw [List.map_map]; rfl, ints?_map]
  rfl


def top (i : Nat) : Stmt := PySem.Challenge.pw_twodivisions_k51_values_of_linear_machin.main.body.getD i (.Pass ⟨0, 0, 0, 0⟩)
abbrev s_is_integer : Stmt := (top 7)
abbrev n_is_integer : List Str := ["value"]
theorem sc_is_integer : FnScope n_is_integer ["value"] (defScope s_is_integer) := ⟨rfl, rfl, rfl, by decide +kernel, rfl, by decide +kernel, by decide +kernel⟩
abbrev s_is_between : Stmt := (top 8)
abbrev n_is_between : List Str := ["value", "least", "greatest"]
theorem sc_is_between : FnScope n_is_between ["value", "least", "greatest"] (defScope s_is_between) := ⟨rfl, rfl, rfl, by decide +kernel, rfl, by decide +kernel, by decide +kernel⟩
abbrev s_greatest_divisor : Stmt := (top 9)
abbrev n_greatest_divisor : List Str := ["one", "other"]
theorem sc_greatest_divisor : FnScope n_greatest_divisor ["one", "other"] (defScope s_greatest_divisor) := ⟨rfl, rfl, rfl, by decide +kernel, rfl, by decide +kernel, by decide +kernel⟩
abbrev s_Ratio___init__ : Stmt := (inClass (top 14) 0)
abbrev n_Ratio___init__ : List Str := ["self", "top", "bottom", "value", "shared"]
theorem sc_Ratio___init__ : FnScope n_Ratio___init__ ["self", "top", "bottom"] (defScope s_Ratio___init__) := ⟨rfl, rfl, rfl, by decide +kernel, rfl, by decide +kernel, by decide +kernel⟩
abbrev s_Ratio_top : Stmt := (inClass (top 14) 2)
abbrev n_Ratio_top : List Str := ["self"]
theorem sc_Ratio_top : FnScope n_Ratio_top ["self"] (defScope s_Ratio_top) := ⟨rfl, rfl, rfl, by decide +kernel, rfl, by decide +kernel, by decide +kernel⟩
abbrev s_Ratio_bottom : Stmt := (inClass (top 14) 3)
abbrev n_Ratio_bottom : List Str := ["self"]
theorem sc_Ratio_bottom : FnScope n_Ratio_bottom ["self"] (defScope s_Ratio_bottom) := ⟨rfl, rfl, rfl, by decide +kernel, rfl, by decide +kernel, by decide +kernel⟩
abbrev s_dotted : Stmt := (top 11)
abbrev n_dotted : List Str := ["one", "other", "left", "right"]
theorem sc_dotted : FnScope n_dotted ["one", "other"] (defScope s_dotted) := ⟨rfl, rfl, rfl, by decide +kernel, rfl, by decide +kernel, by decide +kernel⟩
abbrev s_is_entry_row : Stmt := (top 16)
abbrev n_is_entry_row : List Str := ["value", "many", "one"]
theorem sc_is_entry_row : FnScope n_is_entry_row ["value", "many"] (defScope s_is_entry_row) := ⟨rfl, rfl, rfl, by decide +kernel, rfl, by decide +kernel, by decide +kernel⟩
abbrev s_is_matrix : Stmt := (top 17)
abbrev n_is_matrix : List Str := ["value", "many", "row"]
theorem sc_is_matrix : FnScope n_is_matrix ["value", "many"] (defScope s_is_matrix) := ⟨rfl, rfl, rfl, by decide +kernel, rfl, by decide +kernel, by decide +kernel⟩
abbrev s_is_machine : Stmt := (top 18)
abbrev n_is_machine : List Str := ["value", "first", "matrices", "last", "many", "matrix"]
theorem sc_is_machine : FnScope n_is_machine ["value"] (defScope s_is_machine) := ⟨rfl, rfl, rfl, by decide +kernel, rfl, by decide +kernel, by decide +kernel⟩
abbrev s_bottom_of : Stmt := (top 19)
abbrev n_bottom_of : List Str := ["entry"]
theorem sc_bottom_of : FnScope n_bottom_of ["entry"] (defScope s_bottom_of) := ⟨rfl, rfl, rfl, by decide +kernel, rfl, by decide +kernel, by decide +kernel⟩
abbrev s_times_of : Stmt := (top 20)
abbrev n_times_of : List Str := ["entry", "whole"]
theorem sc_times_of : FnScope n_times_of ["entry", "whole"] (defScope s_times_of) := ⟨rfl, rfl, rfl, by decide +kernel, rfl, by decide +kernel, by decide +kernel⟩
abbrev s_entries_in : Stmt := (top 21)
abbrev n_entries_in : List Str := ["machine", "first", "matrices", "last", "found", "matrix", "line"]
theorem sc_entries_in : FnScope n_entries_in ["machine"] (defScope s_entries_in) := ⟨rfl, rfl, rfl, by decide +kernel, rfl, by decide +kernel, by decide +kernel⟩
abbrev s_WholeMachine_grown : Stmt := (inClass (top 22) 1)
abbrev n_WholeMachine_grown : List Str := ["self", "row", "entry"]
theorem sc_WholeMachine_grown : FnScope n_WholeMachine_grown ["self", "row"] (defScope s_WholeMachine_grown) := ⟨rfl, rfl, rfl, by decide +kernel, rfl, by decide +kernel, by decide +kernel⟩
abbrev s_WholeMachine___init__ : Stmt := (inClass (top 22) 0)
abbrev n_WholeMachine___init__ : List Str := ["self", "machine", "first", "matrices", "last", "whole", "entry", "matrix", "line"]
theorem sc_WholeMachine___init__ : FnScope n_WholeMachine___init__ ["self", "machine"] (defScope s_WholeMachine___init__) := ⟨rfl, rfl, rfl, by decide +kernel, rfl, by decide +kernel, by decide +kernel⟩
abbrev s_WholeMachine_further : Stmt := (inClass (top 22) 2)
abbrev n_WholeMachine_further : List Str := ["self", "row", "figure", "matrix", "column", "line"]
theorem sc_WholeMachine_further : FnScope n_WholeMachine_further ["self", "row", "figure"] (defScope s_WholeMachine_further) := ⟨rfl, rfl, rfl, by decide +kernel, rfl, by decide +kernel, by decide +kernel⟩
abbrev s_WholeMachine_worth_of : Stmt := (inClass (top 22) 3)
abbrev n_WholeMachine_worth_of : List Str := ["self", "row"]
theorem sc_WholeMachine_worth_of : FnScope n_WholeMachine_worth_of ["self", "row"] (defScope s_WholeMachine_worth_of) := ⟨rfl, rfl, rfl, by decide +kernel, rfl, by decide +kernel, by decide +kernel⟩
abbrev s_is_word : Stmt := (top 23)
abbrev n_is_word : List Str := ["value", "size", "figure"]
theorem sc_is_word : FnScope n_is_word ["value", "size"] (defScope s_is_word) := ⟨rfl, rfl, rfl, by decide +kernel, rfl, by decide +kernel, by decide +kernel⟩
abbrev s_machine_value : Stmt := (top 24)
abbrev n_machine_value : List Str := ["machine", "word", "one", "row", "whole", "figure"]
theorem sc_machine_value : FnScope n_machine_value ["machine", "word"] (defScope s_machine_value) := ⟨rfl, rfl, rfl, by decide +kernel, rfl, by decide +kernel, by decide +kernel⟩
abbrev s_l_pool : Stmt := (top 26)
abbrev n_l_pool : List Str := ["_law_script", "_law_k", "_law_cell", "_law_seed"]
theorem sc_l_pool : FnScope n_l_pool ["_law_script", "_law_k"] (defScope s_l_pool) := ⟨rfl, rfl, rfl, by decide +kernel, rfl, by decide +kernel, by decide +kernel⟩
abbrev s_l_draw : Stmt := (top 27)
abbrev n_l_draw : List Str := ["_law_pool_here", "_law_many", "_law_digit"]
theorem sc_l_draw : FnScope n_l_draw ["_law_pool_here", "_law_many"] (defScope s_l_draw) := ⟨rfl, rfl, rfl, by decide +kernel, rfl, by decide +kernel, by decide +kernel⟩
abbrev s_l_entry : Stmt := (top 29)
abbrev n_l_entry : List Str := ["_law_pool_here", "_law_top"]
theorem sc_l_entry : FnScope n_l_entry ["_law_pool_here"] (defScope s_l_entry) := ⟨rfl, rfl, rfl, by decide +kernel, rfl, by decide +kernel, by decide +kernel⟩
abbrev s_l_sum : Stmt := (top 30)
abbrev n_l_sum : List Str := ["_law_one", "_law_other", "_law_top", "_law_bottom", "_law_left", "_law_right", "_law_shared"]
theorem sc_l_sum : FnScope n_l_sum ["_law_one", "_law_other"] (defScope s_l_sum) := ⟨rfl, rfl, rfl, by decide +kernel, rfl, by decide +kernel, by decide +kernel⟩
abbrev s_l_row : Stmt := (top 31)
abbrev n_l_row : List Str := ["_law_row_here", "_law_matrix", "_law_column", "_law_line"]
theorem sc_l_row : FnScope n_l_row ["_law_row_here", "_law_matrix"] (defScope s_l_row) := ⟨rfl, rfl, rfl, by decide +kernel, rfl, by decide +kernel, by decide +kernel⟩
abbrev s_l_shown : Stmt := (top 32)
abbrev n_l_shown : List Str := ["_law_entry_here"]
theorem sc_l_shown : FnScope n_l_shown ["_law_entry_here"] (defScope s_l_shown) := ⟨rfl, rfl, rfl, by decide +kernel, rfl, by decide +kernel, by decide +kernel⟩
abbrev s_l_told : Stmt := (top 33)
abbrev n_l_told : List Str := ["_law_first", "_law_matrices", "_law_last", "_law_lines", "_law_matrix", "_law_line", "_law_one"]
theorem sc_l_told : FnScope n_l_told ["_law_first", "_law_matrices", "_law_last"] (defScope s_l_told) := ⟨rfl, rfl, rfl, by decide +kernel, rfl, by decide +kernel, by decide +kernel⟩
abbrev s_l_same : Stmt := (top 34)
abbrev n_l_same : List Str := ["_law_value", "_law_due"]
theorem sc_l_same : FnScope n_l_same ["_law_value", "_law_due"] (defScope s_l_same) := ⟨rfl, rfl, rfl, by decide +kernel, rfl, by decide +kernel, by decide +kernel⟩
abbrev s_l_no_machine : Stmt := (top 35)
abbrev n_l_no_machine : List Str := ["_law_value", "_law_word", "e"]
theorem sc_l_no_machine : FnScope n_l_no_machine ["_law_value", "_law_word"] (defScope s_l_no_machine) := ⟨rfl, rfl, rfl, by decide +kernel, rfl, by decide +kernel, by decide +kernel⟩
abbrev s_l_no_word : Stmt := (top 36)
abbrev n_l_no_word : List Str := ["_law_machine", "_law_word", "e"]
theorem sc_l_no_word : FnScope n_l_no_word ["_law_machine", "_law_word"] (defScope s_l_no_word) := ⟨rfl, rfl, rfl, by decide +kernel, rfl, by decide +kernel, by decide +kernel⟩
abbrev s_l_refusals : Stmt := (top 37)
abbrev n_l_refusals : List Str := ["_law_told_here", "_law_many", "_law_size", "_law_first", "_law_matrices", "_law_last", "_law_wrong", "_law_word", "_law_one"]
theorem sc_l_refusals : FnScope n_l_refusals ["_law_told_here", "_law_many", "_law_size"] (defScope s_l_refusals) := ⟨rfl, rfl, rfl, by decide +kernel, rfl, by decide +kernel, by decide +kernel⟩
abbrev s_law : Stmt := (top 38)
abbrev n_law : List Str := ["_law_script", "_law_k", "_law_pool_here", "_law_many", "_law_size", "_law_first", "_law_last", "_law_figure", "_law_row_here", "_law_matrices", "_law_words", "_law_told_here", "_law_later", "_law_value", "_law_both", "_law_at", "_law_turn", "_law_one"]
theorem sc_law : FnScope n_law ["_law_script"] (defScope s_law) := ⟨rfl, rfl, rfl, by decide +kernel, rfl, by decide +kernel, by decide +kernel⟩
abbrev s_x_InvalidRatio : Stmt := (inClass (top 3) 0)
abbrev n_x_InvalidRatio : List Str := ["self", "value"]
theorem sc_x_InvalidRatio : FnScope n_x_InvalidRatio ["self", "value"] (defScope s_x_InvalidRatio) := ⟨rfl, rfl, rfl, by decide +kernel, rfl, by decide +kernel, by decide +kernel⟩
abbrev s_x_InvalidMachine : Stmt := (inClass (top 4) 0)
abbrev n_x_InvalidMachine : List Str := ["self", "value"]
theorem sc_x_InvalidMachine : FnScope n_x_InvalidMachine ["self", "value"] (defScope s_x_InvalidMachine) := ⟨rfl, rfl, rfl, by decide +kernel, rfl, by decide +kernel, by decide +kernel⟩
abbrev s_x_InvalidFigures : Stmt := (inClass (top 2) 0)
abbrev n_x_InvalidFigures : List Str := ["self", "value"]
theorem sc_x_InvalidFigures : FnScope n_x_InvalidFigures ["self", "value"] (defScope s_x_InvalidFigures) := ⟨rfl, rfl, rfl, by decide +kernel, rfl, by decide +kernel, by decide +kernel⟩
def tab : Tab where
  cs := ["Ratio", "WholeMachine"]
  fl := ["own_top", "own_bottom", "own_whole", "own_begin", "own_matrices", "own_final"]
  xs := ["InvalidRatio", "InvalidMachine", "InvalidFigures"]
  xf := [("InvalidMachine", "value"), ("InvalidFigures", "value"), ("InvalidRatio", "value")]
  bl := ["bool", "isinstance", "int", "abs", "zip", "sum", "len", "tuple", "all", "range", "list", "min", "max", "ValueError"]
  gl := ["is_integer", "InvalidRatio", "greatest_divisor", "Ratio", "is_entry_row", "is_matrix", "times_of", "entries_in", "bottom_of", "dotted", "is_between", "is_machine", "InvalidMachine", "is_word", "InvalidFigures", "WholeMachine", "_law_draw", "_law_sum", "_law_shown", "machine_value", "_law_no_machine", "_law_no_word", "_law_pool", "_law_entry", "_law_told", "_law_row", "_law_same", "_law_refusals", "law"]
  me := [("WholeMachine", "grown"), ("WholeMachine", "further"), ("WholeMachine", "worth_of")]
  ms := ["WholeMachine", "Ratio"]
  pr := [("Ratio", "bottom"), ("Ratio", "top")]
def exK (K : PySem.W.Frag) : Bool := true
def df0 : Df := ⟨fun K => (gaS K "is_integer"), "is_integer", "is_integer", defArgs s_is_integer, defBody s_is_integer, defScope s_is_integer, []⟩
def df1 : Df := ⟨fun K => (gaS K "is_between"), "is_between", "is_between", defArgs s_is_between, defBody s_is_between, defScope s_is_between, []⟩
def df2 : Df := ⟨fun K => (gaS K "greatest_divisor"), "greatest_divisor", "greatest_divisor", defArgs s_greatest_divisor, defBody s_greatest_divisor, defScope s_greatest_divisor, []⟩
def df3 : Df := ⟨fun K => (maS K "Ratio" "__init__"), "__init__", "Ratio.__init__", defArgs s_Ratio___init__, defBody s_Ratio___init__, defScope s_Ratio___init__, [.int 1]⟩
def df4 : Df := ⟨fun K => (prS K "Ratio" "top"), "top", "Ratio.top", defArgs s_Ratio_top, defBody s_Ratio_top, defScope s_Ratio_top, []⟩
def df5 : Df := ⟨fun K => (prS K "Ratio" "bottom"), "bottom", "Ratio.bottom", defArgs s_Ratio_bottom, defBody s_Ratio_bottom, defScope s_Ratio_bottom, []⟩
def df6 : Df := ⟨fun K => (gaS K "dotted"), "dotted", "dotted", defArgs s_dotted, defBody s_dotted, defScope s_dotted, []⟩
def df7 : Df := ⟨fun K => (gaS K "is_entry_row"), "is_entry_row", "is_entry_row", defArgs s_is_entry_row, defBody s_is_entry_row, defScope s_is_entry_row, []⟩
def df8 : Df := ⟨fun K => (gaS K "is_matrix"), "is_matrix", "is_matrix", defArgs s_is_matrix, defBody s_is_matrix, defScope s_is_matrix, []⟩
def df9 : Df := ⟨fun K => (gaS K "is_machine"), "is_machine", "is_machine", defArgs s_is_machine, defBody s_is_machine, defScope s_is_machine, []⟩
def df10 : Df := ⟨fun K => (gaS K "bottom_of"), "bottom_of", "bottom_of", defArgs s_bottom_of, defBody s_bottom_of, defScope s_bottom_of, []⟩
def df11 : Df := ⟨fun K => (gaS K "times_of"), "times_of", "times_of", defArgs s_times_of, defBody s_times_of, defScope s_times_of, []⟩
def df12 : Df := ⟨fun K => (gaS K "entries_in"), "entries_in", "entries_in", defArgs s_entries_in, defBody s_entries_in, defScope s_entries_in, []⟩
def df13 : Df := ⟨fun K => (maS K "WholeMachine" "grown"), "grown", "WholeMachine.grown", defArgs s_WholeMachine_grown, defBody s_WholeMachine_grown, defScope s_WholeMachine_grown, []⟩
def df14 : Df := ⟨fun K => (maS K "WholeMachine" "__init__"), "__init__", "WholeMachine.__init__", defArgs s_WholeMachine___init__, defBody s_WholeMachine___init__, defScope s_WholeMachine___init__, []⟩
def df15 : Df := ⟨fun K => (maS K "WholeMachine" "further"), "further", "WholeMachine.further", defArgs s_WholeMachine_further, defBody s_WholeMachine_further, defScope s_WholeMachine_further, []⟩
def df16 : Df := ⟨fun K => (maS K "WholeMachine" "worth_of"), "worth_of", "WholeMachine.worth_of", defArgs s_WholeMachine_worth_of, defBody s_WholeMachine_worth_of, defScope s_WholeMachine_worth_of, []⟩
def df17 : Df := ⟨fun K => (gaS K "is_word"), "is_word", "is_word", defArgs s_is_word, defBody s_is_word, defScope s_is_word, []⟩
def df18 : Df := ⟨fun K => (gaS K "machine_value"), "machine_value", "machine_value", defArgs s_machine_value, defBody s_machine_value, defScope s_machine_value, []⟩
def df19 : Df := ⟨fun K => (gaS K "_law_pool"), "_law_pool", "_law_pool", defArgs s_l_pool, defBody s_l_pool, defScope s_l_pool, []⟩
def df20 : Df := ⟨fun K => (gaS K "_law_draw"), "_law_draw", "_law_draw", defArgs s_l_draw, defBody s_l_draw, defScope s_l_draw, []⟩
def df21 : Df := ⟨fun K => (gaS K "_law_entry"), "_law_entry", "_law_entry", defArgs s_l_entry, defBody s_l_entry, defScope s_l_entry, []⟩
def df22 : Df := ⟨fun K => (gaS K "_law_sum"), "_law_sum", "_law_sum", defArgs s_l_sum, defBody s_l_sum, defScope s_l_sum, []⟩
def df23 : Df := ⟨fun K => (gaS K "_law_row"), "_law_row", "_law_row", defArgs s_l_row, defBody s_l_row, defScope s_l_row, []⟩
def df24 : Df := ⟨fun K => (gaS K "_law_shown"), "_law_shown", "_law_shown", defArgs s_l_shown, defBody s_l_shown, defScope s_l_shown, []⟩
def df25 : Df := ⟨fun K => (gaS K "_law_told"), "_law_told", "_law_told", defArgs s_l_told, defBody s_l_told, defScope s_l_told, []⟩
def df26 : Df := ⟨fun K => (gaS K "_law_same"), "_law_same", "_law_same", defArgs s_l_same, defBody s_l_same, defScope s_l_same, []⟩
def df27 : Df := ⟨fun K => (gaS K "_law_no_machine"), "_law_no_machine", "_law_no_machine", defArgs s_l_no_machine, defBody s_l_no_machine, defScope s_l_no_machine, []⟩
def df28 : Df := ⟨fun K => (gaS K "_law_no_word"), "_law_no_word", "_law_no_word", defArgs s_l_no_word, defBody s_l_no_word, defScope s_l_no_word, []⟩
def df29 : Df := ⟨fun K => (gaS K "_law_refusals"), "_law_refusals", "_law_refusals", defArgs s_l_refusals, defBody s_l_refusals, defScope s_l_refusals, []⟩
def df30 : Df := ⟨fun K => (gaS K "law"), "law", "law", defArgs s_law, defBody s_law, defScope s_law, []⟩
def df31 : Df := ⟨fun K => (maS K "InvalidRatio" "__init__"), "__init__", "InvalidRatio.__init__", defArgs s_x_InvalidRatio, defBody s_x_InvalidRatio, defScope s_x_InvalidRatio, []⟩
def df32 : Df := ⟨fun K => (maS K "InvalidMachine" "__init__"), "__init__", "InvalidMachine.__init__", defArgs s_x_InvalidMachine, defBody s_x_InvalidMachine, defScope s_x_InvalidMachine, []⟩
def df33 : Df := ⟨fun K => (maS K "InvalidFigures" "__init__"), "__init__", "InvalidFigures.__init__", defArgs s_x_InvalidFigures, defBody s_x_InvalidFigures, defScope s_x_InvalidFigures, []⟩
def fns : List Df := [df0, df1, df2, df3, df4, df5, df6, df7, df8, df9, df10, df11, df12, df13, df14, df15, df16, df17, df18, df19, df20, df21, df22, df23, df24, df25, df26, df27, df28, df29, df30, df31, df32, df33]
section
variable {P : Program} {w : World} {K : PySem.W.Frag} {mg : Str → Option Value} {base : Heap}
theorem ok_x_InvalidRatio (T : Tx tab exK fns K mg) : ∃ fd, FnOk P w K mg base CX0 1 (maS K "InvalidRatio" "__init__") fd ["self", "value"] (spExc (Str.ofString "value") (gaS K "InvalidRatio")) ∧ Binds K fd ["self", "value"] [] := by
  obtain ⟨fd, F⟩ := T.c.def_ 31
  refine ⟨fd, fund_ok0 F sc_x_InvalidRatio (fun vs H Q E h => ?_) (fun cdv A outer s H vs Q E hr h => ?_), F.bindsN (fun _ _ _ _ _ _ us hl => match us, hl with | [_, _], _ => rfl)⟩
  · obtain ⟨a, v, rfl, _⟩ := h
    rfl
  · obtain ⟨a, v, rfl, ha, q⟩ := h
    refine ⟨_, pss_cons (ps_expr (pe_veinit (pl := _) (by rfl) (T.bl 13) (T.tab.ve (by simp [tab])) (pa_cons (pv 0) (pa_cons pe_str pa_nil)))) (pss_one (ps_ost (pv 0) (pv 1))), ?_⟩
    refine ⟨_, rfl, a, _, _, rfl, (by decide), (T.tab.xs "InvalidRatio" (mem_ix 0)).oex, ha, ?_⟩
    exact ⟨_, rfl, _, rfl, a, _, rfl, (T.tab.xs "InvalidRatio" (mem_ix 0)).oex, (T.tab.xf ("InvalidRatio", "value") (mem_ix 2)), .inl ⟨ha, q⟩⟩
theorem ok_x_InvalidMachine (T : Tx tab exK fns K mg) : ∃ fd, FnOk P w K mg base CX0 1 (maS K "InvalidMachine" "__init__") fd ["self", "value"] (spExc (Str.ofString "value") (gaS K "InvalidMachine")) ∧ Binds K fd ["self", "value"] [] := by
  obtain ⟨fd, F⟩ := T.c.def_ 32
  refine ⟨fd, fund_ok0 F sc_x_InvalidMachine (fun vs H Q E h => ?_) (fun cdv A outer s H vs Q E hr h => ?_), F.bindsN (fun _ _ _ _ _ _ us hl => match us, hl with | [_, _], _ => rfl)⟩
  · obtain ⟨a, v, rfl, _⟩ := h
    rfl
  · obtain ⟨a, v, rfl, ha, q⟩ := h
    refine ⟨_, pss_cons (ps_expr (pe_veinit (pl := _) (by rfl) (T.bl 13) (T.tab.ve (by simp [tab])) (pa_cons (pv 0) (pa_cons pe_str pa_nil)))) (pss_one (ps_ost (pv 0) (pv 1))), ?_⟩
    refine ⟨_, rfl, a, _, _, rfl, (by decide), (T.tab.xs "InvalidMachine" (mem_ix 1)).oex, ha, ?_⟩
    exact ⟨_, rfl, _, rfl, a, _, rfl, (T.tab.xs "InvalidMachine" (mem_ix 1)).oex, (T.tab.xf ("InvalidMachine", "value") (mem_ix 0)), .inl ⟨ha, q⟩⟩
theorem ok_x_InvalidFigures (T : Tx tab exK fns K mg) : ∃ fd, FnOk P w K mg base CX0 1 (maS K "InvalidFigures" "__init__") fd ["self", "value"] (spExc (Str.ofString "value") (gaS K "InvalidFigures")) ∧ Binds K fd ["self", "value"] [] := by
  obtain ⟨fd, F⟩ := T.c.def_ 33
  refine ⟨fd, fund_ok0 F sc_x_InvalidFigures (fun vs H Q E h => ?_) (fun cdv A outer s H vs Q E hr h => ?_), F.bindsN (fun _ _ _ _ _ _ us hl => match us, hl with | [_, _], _ => rfl)⟩
  · obtain ⟨a, v, rfl, _⟩ := h
    rfl
  · obtain ⟨a, v, rfl, ha, q⟩ := h
    refine ⟨_, pss_cons (ps_expr (pe_veinit (pl := _) (by rfl) (T.bl 13) (T.tab.ve (by simp [tab])) (pa_cons (pv 0) (pa_cons pe_str pa_nil)))) (pss_one (ps_ost (pv 0) (pv 1))), ?_⟩
    refine ⟨_, rfl, a, _, _, rfl, (by decide), (T.tab.xs "InvalidFigures" (mem_ix 2)).oex, ha, ?_⟩
    exact ⟨_, rfl, _, rfl, a, _, rfl, (T.tab.xs "InvalidFigures" (mem_ix 2)).oex, (T.tab.xf ("InvalidFigures", "value") (mem_ix 1)), .inl ⟨ha, q⟩⟩
noncomputable abbrev b_is_integer : MS := (mRet (mAnd (mCB oIsi (mCons (mVar 0) (mCons (mC (.ty "int")) mNil))) (mUn oNot (mCB oIsi (mCons (mVar 0) (mCons (mC (.ty "bool")) mNil))))))
noncomputable def m_is_integer : MF := mFun 1 1 b_is_integer
theorem ok_is_integer (T : Tx tab exK fns K mg) : OkB P w K mg base 1 (gaS K "is_integer") ["value"] [] (spM T.G m_is_integer) :=
  okb_mk (T.c.def_ 0) (fun _ _ _ _ _ _ us hl => match us, hl with | [_], _ => rfl) fun fd F => fn_m (G := T.G) F sc_is_integer rfl T.jv fun cdv A outer s H E hr =>
    have tk : Takes (cxOf (L2.CX P w) P w K mg base n_is_integer "is_integer" (defScope s_is_integer) (gaS K "is_integer") cdv A outer s H E) (fun cls d _ H' => E cls d H') := takes_of rfl rfl rfl rfl
    (dss_one (ds_ret (de_and (de_cb (id := "isinstance") (cr_isi rfl) sim_isi (by rfl) (T.bl 1) (by decide +kernel) (da_cons (de_v (pv 0)) (da_cons (de_c (pe_bltn (v := .ty "int") (by rfl) (T.bl 2) (by decide +kernel) rfl) (fun _ => .ty "int")) da_nil))) (de_one (de_not (de_cb (id := "isinstance") (cr_isi rfl) sim_isi (by rfl) (T.bl 1) (by decide +kernel) (da_cons (de_v (pv 0)) (da_cons (de_c (pe_bltn (v := .ty "bool") (by rfl) (T.bl 0) (by decide +kernel) rfl) (fun _ => .ty "bool")) da_nil))))))))
noncomputable abbrev b_is_between : MS := (mRet (mAnd (mCall (withD [] (pureF m_is_integer)) (mCons (mVar 0) mNil)) (mChain oLe oLe (mVar 1) (mVar 0) (mVar 2))))
noncomputable def m_is_between : MF := mFun 3 3 b_is_between
theorem ok_is_between (T : Tx tab exK fns K mg) : OkB P w K mg base 2 (gaS K "is_between") ["value", "least", "greatest"] [] (spM T.G m_is_between) :=
  okb_mk (T.c.def_ 1) (fun _ _ _ _ _ _ us hl => match us, hl with | [_, _, _], _ => rfl) fun fd F => fn_m (G := T.G) F sc_is_between rfl T.jv fun cdv A outer s H E hr =>
    have tk : Takes (cxOf (L2.CX P w) P w K mg base n_is_between "is_between" (defScope s_is_between) (gaS K "is_between") cdv A outer s H E) (fun cls d _ H' => E cls d H') := takes_of rfl rfl rfl rfl
    (dss_one (ds_ret (de_and (ck_pcall (ok_is_integer T) dfl_nil (hr.mono (by decide)) (by rfl) (T.gl 0) tk (da_cons (de_v (pv 0)) da_nil)) (de_one (de_chain op_le op_le sim_le sim_le (de_v (pv 1)) (de_v (pv 0)) (de_v (pv 2)))))))
noncomputable abbrev b_greatest_divisor : MS := (mSeq (mPar [0, 1] (mCons (mCB oAbs (mCons (mVar 0) mNil)) (mCons (mCB oAbs (mCons (mVar 1) mNil)) mNil)))
      (mSeq (mWhile (mTst (mBin oGt (mVar 1) (mC (.int 0))))
      (mPar [0, 1] (mCons (mVar 1) (mCons (mBin oMod (mVar 0) (mVar 1)) mNil))))
      (mRet (mVar 0))))
noncomputable def m_greatest_divisor : MF := mFun 2 2 b_greatest_divisor
theorem ok_greatest_divisor (T : Tx tab exK fns K mg) : OkB P w K mg base 1 (gaS K "greatest_divisor") ["one", "other"] [] (spM T.G m_greatest_divisor) :=
  okb_mk (T.c.def_ 2) (fun _ _ _ _ _ _ us hl => match us, hl with | [_, _], _ => rfl) fun fd F => fn_m (G := T.G) F sc_greatest_divisor rfl T.jv fun cdv A outer s H E hr =>
    have tk : Takes (cxOf (L2.CX P w) P w K mg base n_greatest_divisor "greatest_divisor" (defScope s_greatest_divisor) (gaS K "greatest_divisor") cdv A outer s H E) (fun cls d _ H' => E cls d H') := takes_of rfl rfl rfl rfl
    (dss_cons (ds_par T.stb (fun p => ps_par (i := 0) (j := 1) (by rfl) sc_greatest_divisor.nd rfl rfl (by decide) rfl rfl p (by rfl)) (da_cons (de_cb (id := "abs") call_abs sim_I1 (by rfl) (T.bl 3) (by decide +kernel) (da_cons (de_v (pv 0)) da_nil)) (da_cons (de_cb (id := "abs") call_abs sim_I1 (by rfl) (T.bl 3) (by decide +kernel) (da_cons (de_v (pv 1)) da_nil)) da_nil)))
      (dss_cons (ds_while (passes_of rfl) (dt_cmp op_gt sim_gt (de_v (pv 1)) de_int (nomark _))
      (dss_one (ds_par T.stb (fun p => ps_par (i := 0) (j := 1) (by rfl) sc_greatest_divisor.nd rfl rfl (by decide) rfl rfl p (by rfl)) (da_cons (de_v (pv 1)) (da_cons (de_op op_modN sim_mod (de_v (pv 0)) (de_v (pv 1))) da_nil)))))
      (dss_one (ds_ret (de_v (pv 0))))))
noncomputable abbrev b_Ratio___init__ : MS := (mSeq (mFor (mItS (mTup (mCons (mVar 1) (mCons (mVar 2) mNil)))) (gN 3)
      (mIfS (mNotT (mTru (mCall (withD [] (pureF m_is_integer)) (mCons (mVar 3) mNil)))) (mRaise "InvalidRatio" ["value"] (mCons (mVar 3) mNil)) mSkip))
      (mSeq (mIfS (mTst (mBin oEq (mVar 2) (mC (.int 0)))) mBad mSkip)
      (mSeq (mAsg (mCall (withD [] (pureF m_greatest_divisor)) (mCons (mVar 1) (mCons (mVar 2) mNil))) (gN 4))
      (mSeq (mIfS (mTst (mBin oLt (mVar 2) (mC (.int 0)))) (mAsg (mUn oNeg (mVar 4)) (gN 4)) mSkip)
      (mSeq (mSetF "own_top" (mVar 0) (mBin oFdiv (mVar 1) (mVar 4)))
      (mSetF "own_bottom" (mVar 0) (mBin oFdiv (mVar 2) (mVar 4))))))))
noncomputable def m_Ratio___init__ : MF := mFun 3 5 b_Ratio___init__
theorem fn_Ratio___init__ (T : Tx tab exK fns K mg) : ∀ fd, FunD K "__init__" "Ratio.__init__" (defArgs s_Ratio___init__) (defBody s_Ratio___init__) (defScope s_Ratio___init__) [.int 1] [] (maS K "Ratio" "__init__") fd → FnOk P w K mg base (L2.CX P w) 3 (maS K "Ratio" "__init__") fd ["self", "top", "bottom"] (spM T.G m_Ratio___init__) :=
  fun fd F => fn_m (G := T.G) F sc_Ratio___init__ rfl T.jv fun cdv A outer s H E hr =>
    have tk : Takes (cxOf (L2.CX P w) P w K mg base n_Ratio___init__ "Ratio.__init__" (defScope s_Ratio___init__) (maS K "Ratio" "__init__") cdv A outer s H E) (fun cls d _ H' => E cls d H') := takes_of rfl rfl rfl rfl
    (dss_cons (ds_for (vs := [3]) (passes_of rfl) (by rfl) (di_seq rfl (de_tup (da_cons (de_v (pv 1)) (da_cons (de_v (pv 2)) da_nil)))) (dg_name T.stb (mem_ix 0) (pg_name (i := 3) sc_Ratio___init__.nd rfl (Or.inl rfl)))
      (dss_one (ds_if (dt_not (dt_tru rfl (ck_pcall (ok_is_integer T) dfl_nil (hr.mono (by decide)) (by rfl) (T.gl 0) tk (da_cons (de_v (pv 3)) da_nil)))) (dss_one (ds_raise1 (c := "InvalidRatio") (mem_ix 0) (fun p => ps_raise (by rfl) tk (pmk_oex (T.tab.xs "InvalidRatio" (mem_ix 0)).oex (T.tab.xs "InvalidRatio" (mem_ix 0)).iC (T.tab.xs "InvalidRatio" (mem_ix 0)).tI (ok_x_InvalidRatio T).choose_spec.1 (hr.mono (by decide)) (ok_x_InvalidRatio T).choose_spec.2 .nil pass0 (by rfl) (T.gl 1) p)) (da_cons (de_v (pv 3)) da_nil))) dss_nil)))
      (dss_cons (ds_if (dt_cmp (op_eq' rfl hr.units) sim_eq (de_v (pv 2)) de_int (nomark _)) (dss_one (ds_never ps_never)) dss_nil)
      (dss_cons (ds_set (i := 4) T.stb (fun p => ps_set (i := 4) sc_Ratio___init__.nd rfl (Or.inl rfl) p) (ck_pcall (ok_greatest_divisor T) dfl_nil (hr.mono (by decide)) (by rfl) (T.gl 2) tk (da_cons (de_v (pv 1)) (da_cons (de_v (pv 2)) da_nil))))
      (dss_cons (ds_if (dt_cmp op_lt sim_lt (de_v (pv 2)) de_int (nomark _)) (dss_one (ds_set (i := 4) T.stb (fun p => ps_set (i := 4) sc_Ratio___init__.nd rfl (Or.inl rfl) p) (de_neg (de_v (pv 4))))) dss_nil)
      (dss_cons (ds_setF (f := "own_top") rfl (T.fl 0) (de_v (pv 0)) (de_op op_fdivX sim_fdiv (de_v (pv 1)) (de_v (pv 4))) rfl)
      (dss_one (ds_setF (f := "own_bottom") rfl (T.fl 1) (de_v (pv 0)) (de_op op_fdivX sim_fdiv (de_v (pv 2)) (de_v (pv 4))) rfl)))))))
theorem ok_Ratio___init__ (T : Tx tab exK fns K mg) : OkB P w K mg base 3 (maS K "Ratio" "__init__") ["self", "top", "bottom"] [] (spM T.G m_Ratio___init__) :=
  okb_mkD (dvs := [.int 1]) (T.c.def_ 3) 3 1 (by simp) (by rfl) (fun _ _ _ _ _ _ _ us its hl hi => match us, hl, its, hi with | [_, _, _], _, [_], _ => ⟨_, rfl, rfl⟩) (fn_Ratio___init__ T)
theorem okD1_Ratio___init__ (T : Tx tab exK fns K mg) : OkB P w K mg base 3 (maS K "Ratio" "__init__") ["self", "top", "bottom"] [.int 1] (spM T.G m_Ratio___init__) :=
  okb_mkD (dvs := [.int 1]) (T.c.def_ 3) 2 0 (by simp) (by rfl) (fun _ _ _ _ _ _ _ us its hl hi => match us, hl, its, hi with | [_, _], _, [_], _ => ⟨_, rfl, rfl⟩) (fn_Ratio___init__ T)
noncomputable abbrev b_Ratio_top : MS := (mRet (mFld "own_top" (mVar 0)))
noncomputable def m_Ratio_top : MF := mFun 1 1 b_Ratio_top
theorem ok_Ratio_top (T : Tx tab exK fns K mg) : OkB P w K mg base 1 (prS K "Ratio" "top") ["self"] [] (spM T.G m_Ratio_top) :=
  okb_mk (T.c.def_ 4) (fun _ _ _ _ _ _ us hl => match us, hl with | [_], _ => rfl) fun fd F => fn_m (G := T.G) F sc_Ratio_top rfl T.jv fun cdv A outer s H E hr =>
    have tk : Takes (cxOf (L2.CX P w) P w K mg base n_Ratio_top "Ratio.top" (defScope s_Ratio_top) (prS K "Ratio" "top") cdv A outer s H E) (fun cls d _ H' => E cls d H') := takes_of rfl rfl rfl rfl
    (dss_one (ds_ret (de_fld (f := "own_top") rfl (T.fl 0) (de_v (pv 0)) rfl)))
noncomputable abbrev b_Ratio_bottom : MS := (mRet (mFld "own_bottom" (mVar 0)))
noncomputable def m_Ratio_bottom : MF := mFun 1 1 b_Ratio_bottom
theorem ok_Ratio_bottom (T : Tx tab exK fns K mg) : OkB P w K mg base 1 (prS K "Ratio" "bottom") ["self"] [] (spM T.G m_Ratio_bottom) :=
  okb_mk (T.c.def_ 5) (fun _ _ _ _ _ _ us hl => match us, hl with | [_], _ => rfl) fun fd F => fn_m (G := T.G) F sc_Ratio_bottom rfl T.jv fun cdv A outer s H E hr =>
    have tk : Takes (cxOf (L2.CX P w) P w K mg base n_Ratio_bottom "Ratio.bottom" (defScope s_Ratio_bottom) (prS K "Ratio" "bottom") cdv A outer s H E) (fun cls d _ H' => E cls d H') := takes_of rfl rfl rfl rfl
    (dss_one (ds_ret (de_fld (f := "own_bottom") rfl (T.fl 1) (de_v (pv 0)) rfl)))
noncomputable abbrev b_dotted : MS := (mRet (mCB oSum (mCons (mLc [2, 3] (mItZ (mCons (mVar 0) (mCons (mVar 1) mNil))) (gT 2 (gsC (gN 2) (gsC (gN 3) gsN))) mYes (mBin oMul (mVar 2) (mVar 3))) mNil)))
noncomputable def m_dotted : MF := mFun 2 4 b_dotted
theorem ok_dotted (T : Tx tab exK fns K mg) : OkB P w K mg base 1 (gaS K "dotted") ["one", "other"] [] (spM T.G m_dotted) :=
  okb_mk (T.c.def_ 6) (fun _ _ _ _ _ _ us hl => match us, hl with | [_, _], _ => rfl) fun fd F => fn_m (G := T.G) F sc_dotted rfl T.jv fun cdv A outer s H E hr =>
    have tk : Takes (cxOf (L2.CX P w) P w K mg base n_dotted "dotted" (defScope s_dotted) (gaS K "dotted") cdv A outer s H E) (fun cls d _ H' => E cls d H') := takes_of rfl rfl rfl rfl
    (dss_one (ds_ret (de_cb (id := "sum") (cr_sum' rfl (by rfl)) sim_sum (by rfl) (T.bl 5) (by decide +kernel) (da_cons (de_lc (own := [("left", 2), ("right", 3)]) T.stb (by rfl) sc_dotted.nd (by exact (di_zip rfl (fun p => pi_zip (by rfl) (T.bl 4) p) (da_cons (de_v (pv 0)) (da_cons (de_v (pv 1)) da_nil)))) (blkOk_by (own := [("left", 2), ("right", 3)]) (N := n_dotted) (sc := defScope s_dotted) (by decide +kernel)) (fun _ => by exact (dg_tup (n := 2) rfl (by rfl) (dgs_cons (dg_name T.stb (mem_ix 0) (pg_name (i := 2) sc_dotted.nd rfl (Or.inl rfl))) (dgs_cons (dg_name T.stb (mem_ix 1) (pg_name (i := 3) sc_dotted.nd rfl (Or.inl rfl))) dgs_nil)))) (fun _ => by exact dts_nil) (fun _ => by exact (de_op op_muls sim_mul (de_v (pv 2)) (de_v (pv 3))))) da_nil))))
noncomputable abbrev b_is_entry_row : MS := (mSeq (mIfS (mOrT (mNotT (mTru (mCB oIsi (mCons (mVar 0) (mCons (mC (.ty "tuple")) mNil))))) (mTst (mBin oNe (mCB oLen (mCons (mVar 0) mNil)) (mVar 1)))) (mRet (mC (.bl false))) mSkip)
      (mRet (mCB oAll (mCons (mLc [2] (mItS (mVar 0)) (gN 2) mYes (mOr (mCall (withD [] (pureF m_is_integer)) (mCons (mVar 2) mNil)) (mCB oIsi (mCons (mVar 2) (mCons (mC (.cls "Ratio")) mNil))))) mNil))))
noncomputable def m_is_entry_row : MF := mFun 2 3 b_is_entry_row
theorem ok_is_entry_row (T : Tx tab exK fns K mg) : OkB P w K mg base 2 (gaS K "is_entry_row") ["value", "many"] [] (spM T.G m_is_entry_row) :=
  okb_mk (T.c.def_ 7) (fun _ _ _ _ _ _ us hl => match us, hl with | [_, _], _ => rfl) fun fd F => fn_m (G := T.G) F sc_is_entry_row rfl T.jv fun cdv A outer s H E hr =>
    have tk : Takes (cxOf (L2.CX P w) P w K mg base n_is_entry_row "is_entry_row" (defScope s_is_entry_row) (gaS K "is_entry_row") cdv A outer s H E) (fun cls d _ H' => E cls d H') := takes_of rfl rfl rfl rfl
    (dss_cons (ds_if (DW.dt (dw_or (dt_not (dt_tru rfl (de_cb (id := "isinstance") (cr_isi rfl) sim_isi (by rfl) (T.bl 1) (by decide +kernel) (da_cons (de_v (pv 0)) (da_cons (de_c (pe_bltn (v := .ty "tuple") (by rfl) (T.bl 7) (by decide +kernel) rfl) (fun _ => .ty "tuple")) da_nil))))) (dw_or1 (dt_cmp (op_ne' rfl hr.units) sim_ne (de_cb (id := "len") (cr_len rfl) sim_len (by rfl) (T.bl 6) (by decide +kernel) (da_cons (de_v (pv 0)) da_nil)) (de_v (pv 1)) (nomark _))))) (dss_one (ds_ret de_bl)) dss_nil)
      (dss_one (ds_ret (de_cb (id := "all") (cr_all' rfl (by rfl)) sim_all (by rfl) (T.bl 8) (by decide +kernel) (da_cons (de_lc (own := [("one", 2)]) T.stb (by rfl) sc_is_entry_row.nd (by exact (di_seq rfl (de_v (pv 0)))) (blkOk_by (own := [("one", 2)]) (N := n_is_entry_row) (sc := defScope s_is_entry_row) (by decide +kernel)) (fun _ => by exact (dg_name T.stb (mem_ix 0) (pg_name (i := 2) sc_is_entry_row.nd rfl (Or.inl rfl)))) (fun _ => by exact dts_nil) (fun _ => by exact (de_or (ck_pcall (ok_is_integer T) dfl_nil (hr.mono (by decide)) (by rfl) (T.gl 0) takes0 (da_cons (de_v (pv 2)) da_nil)) (de_one (de_cb (id := "isinstance") (cr_isi rfl) sim_isi (by rfl) (T.bl 1) (by decide +kernel) (da_cons (de_v (pv 2)) (da_cons (de_c (pe_glob (v := .ref (gaS K "Ratio")) (by rfl) (T.gl 3) rfl) (fun _ => .cls "Ratio" (mem_ix 0))) da_nil))))))) da_nil)))))
noncomputable abbrev b_is_matrix : MS := (mRet (mAnd (mCB oIsi (mCons (mVar 0) (mCons (mC (.ty "tuple")) mNil))) (mAnd (mBin oEq (mCB oLen (mCons (mVar 0) mNil)) (mVar 1)) (mCB oAll (mCons (mLc [2] (mItS (mVar 0)) (gN 2) mYes (mCall (withD [] (pureF m_is_entry_row)) (mCons (mVar 2) (mCons (mVar 1) mNil)))) mNil)))))
noncomputable def m_is_matrix : MF := mFun 2 3 b_is_matrix
theorem ok_is_matrix (T : Tx tab exK fns K mg) : OkB P w K mg base 3 (gaS K "is_matrix") ["value", "many"] [] (spM T.G m_is_matrix) :=
  okb_mk (T.c.def_ 8) (fun _ _ _ _ _ _ us hl => match us, hl with | [_, _], _ => rfl) fun fd F => fn_m (G := T.G) F sc_is_matrix rfl T.jv fun cdv A outer s H E hr =>
    have tk : Takes (cxOf (L2.CX P w) P w K mg base n_is_matrix "is_matrix" (defScope s_is_matrix) (gaS K "is_matrix") cdv A outer s H E) (fun cls d _ H' => E cls d H') := takes_of rfl rfl rfl rfl
    (dss_one (ds_ret (de_and (de_cb (id := "isinstance") (cr_isi rfl) sim_isi (by rfl) (T.bl 1) (by decide +kernel) (da_cons (de_v (pv 0)) (da_cons (de_c (pe_bltn (v := .ty "tuple") (by rfl) (T.bl 7) (by decide +kernel) rfl) (fun _ => .ty "tuple")) da_nil))) (de_and (de_cmp (op_eq' rfl hr.units) sim_eq (de_cb (id := "len") (cr_len rfl) sim_len (by rfl) (T.bl 6) (by decide +kernel) (da_cons (de_v (pv 0)) da_nil)) (de_v (pv 1)) (nomark _)) (de_one (de_cb (id := "all") (cr_all' rfl (by rfl)) sim_all (by rfl) (T.bl 8) (by decide +kernel) (da_cons (de_lc (own := [("row", 2)]) T.stb (by rfl) sc_is_matrix.nd (by exact (di_seq rfl (de_v (pv 0)))) (blkOk_by (own := [("row", 2)]) (N := n_is_matrix) (sc := defScope s_is_matrix) (by decide +kernel)) (fun _ => by exact (dg_name T.stb (mem_ix 0) (pg_name (i := 2) sc_is_matrix.nd rfl (Or.inl rfl)))) (fun _ => by exact dts_nil) (fun _ => by exact (ck_pcall (ok_is_entry_row T) dfl_nil (hr.mono (by decide)) (by rfl) (T.gl 4) takes0 (da_cons (de_v (pv 2)) (da_cons (de_v (pv 1)) da_nil))))) da_nil)))))))
noncomputable abbrev b_is_machine : MS := (mSeq (mIfS (mOrT (mNotT (mTru (mCB oIsi (mCons (mVar 0) (mCons (mC (.ty "tuple")) mNil))))) (mTst (mBin oNe (mCB oLen (mCons (mVar 0) mNil)) (mC (.int 3))))) (mRet (mC (.bl false))) mSkip)
      (mSeq (mAsg (mVar 0) (gT 3 (gsC (gN 1) (gsC (gN 2) (gsC (gN 3) gsN)))))
      (mSeq (mIfS (mOrT (mNotT (mTru (mCB oIsi (mCons (mVar 1) (mCons (mC (.ty "tuple")) mNil))))) (mNotT (mTru (mCB oIsi (mCons (mVar 2) (mCons (mC (.ty "tuple")) mNil)))))) (mRet (mC (.bl false))) mSkip)
      (mSeq (mAsg (mCB oLen (mCons (mVar 1) mNil)) (gN 4))
      (mSeq (mIfS (mOrT (mNotT (mTru (mCall (withD [] (pureF m_is_entry_row)) (mCons (mVar 1) (mCons (mVar 4) mNil))))) (mNotT (mTru (mCall (withD [] (pureF m_is_entry_row)) (mCons (mVar 3) (mCons (mVar 4) mNil)))))) (mRet (mC (.bl false))) mSkip)
      (mRet (mCB oAll (mCons (mLc [5] (mItS (mVar 2)) (gN 5) mYes (mCall (withD [] (pureF m_is_matrix)) (mCons (mVar 5) (mCons (mVar 4) mNil)))) mNil))))))))
noncomputable def m_is_machine : MF := mFun 1 6 b_is_machine
theorem ok_is_machine (T : Tx tab exK fns K mg) : OkB P w K mg base 4 (gaS K "is_machine") ["value"] [] (spM T.G m_is_machine) :=
  okb_mk (T.c.def_ 9) (fun _ _ _ _ _ _ us hl => match us, hl with | [_], _ => rfl) fun fd F => fn_m (G := T.G) F sc_is_machine rfl T.jv fun cdv A outer s H E hr =>
    have tk : Takes (cxOf (L2.CX P w) P w K mg base n_is_machine "is_machine" (defScope s_is_machine) (gaS K "is_machine") cdv A outer s H E) (fun cls d _ H' => E cls d H') := takes_of rfl rfl rfl rfl
    (dss_cons (ds_if (DW.dt (dw_or (dt_not (dt_tru rfl (de_cb (id := "isinstance") (cr_isi rfl) sim_isi (by rfl) (T.bl 1) (by decide +kernel) (da_cons (de_v (pv 0)) (da_cons (de_c (pe_bltn (v := .ty "tuple") (by rfl) (T.bl 7) (by decide +kernel) rfl) (fun _ => .ty "tuple")) da_nil))))) (dw_or1 (dt_cmp (op_ne' rfl hr.units) sim_ne (de_cb (id := "len") (cr_len rfl) sim_len (by rfl) (T.bl 6) (by decide +kernel) (da_cons (de_v (pv 0)) da_nil)) de_int (nomark _))))) (dss_one (ds_ret de_bl)) dss_nil)
      (dss_cons (ds_asg (vs := [1, 2, 3]) (de_v (pv 0)) (dg_tup (n := 3) rfl (by rfl) (dgs_cons (dg_name T.stb (mem_ix 0) (pg_name (i := 1) sc_is_machine.nd rfl (Or.inl rfl))) (dgs_cons (dg_name T.stb (mem_ix 1) (pg_name (i := 2) sc_is_machine.nd rfl (Or.inl rfl))) (dgs_cons (dg_name T.stb (mem_ix 2) (pg_name (i := 3) sc_is_machine.nd rfl (Or.inl rfl))) dgs_nil)))) (fun p x => ps_asg p x))
      (dss_cons (ds_if (DW.dt (dw_or (dt_not (dt_tru rfl (de_cb (id := "isinstance") (cr_isi rfl) sim_isi (by rfl) (T.bl 1) (by decide +kernel) (da_cons (de_v (pv 1)) (da_cons (de_c (pe_bltn (v := .ty "tuple") (by rfl) (T.bl 7) (by decide +kernel) rfl) (fun _ => .ty "tuple")) da_nil))))) (dw_or1 (dt_not (dt_tru rfl (de_cb (id := "isinstance") (cr_isi rfl) sim_isi (by rfl) (T.bl 1) (by decide +kernel) (da_cons (de_v (pv 2)) (da_cons (de_c (pe_bltn (v := .ty "tuple") (by rfl) (T.bl 7) (by decide +kernel) rfl) (fun _ => .ty "tuple")) da_nil)))))))) (dss_one (ds_ret de_bl)) dss_nil)
      (dss_cons (ds_set (i := 4) T.stb (fun p => ps_set (i := 4) sc_is_machine.nd rfl (Or.inr rfl) p) (de_cb (id := "len") (cr_len rfl) sim_len (by rfl) (T.bl 6) (by decide +kernel) (da_cons (de_v (pv 1)) da_nil)))
      (dss_cons (ds_if (DW.dt (dw_or (dt_not (dt_tru rfl (ck_pcall (ok_is_entry_row T) dfl_nil (hr.mono (by decide)) (by rfl) (T.gl 4) tk (da_cons (de_v (pv 1)) (da_cons (de_v (pv 4)) da_nil))))) (dw_or1 (dt_not (dt_tru rfl (ck_pcall (ok_is_entry_row T) dfl_nil (hr.mono (by decide)) (by rfl) (T.gl 4) tk (da_cons (de_v (pv 3)) (da_cons (de_v (pv 4)) da_nil)))))))) (dss_one (ds_ret de_bl)) dss_nil)
      (dss_one (ds_ret (de_cb (id := "all") (cr_all' rfl (by rfl)) sim_all (by rfl) (T.bl 8) (by decide +kernel) (da_cons (de_lc (own := [("matrix", 5)]) T.stb (by rfl) sc_is_machine.nd (by exact (di_seq rfl (de_v (pv 2)))) (blkOk_by (own := [("matrix", 5)]) (N := n_is_machine) (sc := defScope s_is_machine) (by decide +kernel)) (fun _ => by exact (dg_name T.stb (mem_ix 0) (pg_name (i := 5) sc_is_machine.nd rfl (Or.inl rfl)))) (fun _ => by exact dts_nil) (fun _ => by exact (ck_pcall (ok_is_matrix T) dfl_nil (hr.mono (by decide)) (by rfl) (T.gl 5) takes0 (da_cons (de_v (pv 5)) (da_cons (de_v (pv 4)) da_nil))))) da_nil)))))))))
noncomputable abbrev b_bottom_of : MS := (mRet (mIf (mTru (mCB oIsi (mCons (mVar 0) (mCons (mC (.cls "Ratio")) mNil)))) (mProp "Ratio" (pureF m_Ratio_bottom) (mVar 0)) (mC (.int 1))))
noncomputable def m_bottom_of : MF := mFun 1 1 b_bottom_of
theorem ok_bottom_of (T : Tx tab exK fns K mg) : OkB P w K mg base 3 (gaS K "bottom_of") ["entry"] [] (spM T.G m_bottom_of) :=
  okb_mk (T.c.def_ 10) (fun _ _ _ _ _ _ us hl => match us, hl with | [_], _ => rfl) fun fd F => fn_m (G := T.G) F sc_bottom_of rfl T.jv fun cdv A outer s H E hr =>
    have tk : Takes (cxOf (L2.CX P w) P w K mg base n_bottom_of "bottom_of" (defScope s_bottom_of) (gaS K "bottom_of") cdv A outer s H E) (fun cls d _ H' => E cls d H') := takes_of rfl rfl rfl rfl
    (dss_one (ds_ret (de_if (dt_tru rfl (de_cb (id := "isinstance") (cr_isi rfl) sim_isi (by rfl) (T.bl 1) (by decide +kernel) (da_cons (de_v (pv 0)) (da_cons (de_c (pe_glob (v := .ref (gaS K "Ratio")) (by rfl) (T.gl 3) rfl) (fun _ => .cls "Ratio" (mem_ix 0))) da_nil)))) (ck_prop (c := "Ratio") (pureF m_Ratio_bottom) rfl (mem_ix 0) (de_v (pv 0)) (T.tab.pr ("Ratio", "bottom") (mem_ix 0)) (ok_Ratio_bottom T) (hr.mono (by decide)) (.inr rfl) rfl) de_int)))
noncomputable abbrev b_times_of : MS := (mRet (mIf (mTru (mCB oIsi (mCons (mVar 0) (mCons (mC (.cls "Ratio")) mNil)))) (mBin oMul (mProp "Ratio" (pureF m_Ratio_top) (mVar 0)) (mBin oFdiv (mVar 1) (mProp "Ratio" (pureF m_Ratio_bottom) (mVar 0)))) (mBin oMul (mVar 0) (mVar 1))))
noncomputable def m_times_of : MF := mFun 2 2 b_times_of
theorem ok_times_of (T : Tx tab exK fns K mg) : OkB P w K mg base 3 (gaS K "times_of") ["entry", "whole"] [] (spM T.G m_times_of) :=
  okb_mk (T.c.def_ 11) (fun _ _ _ _ _ _ us hl => match us, hl with | [_, _], _ => rfl) fun fd F => fn_m (G := T.G) F sc_times_of rfl T.jv fun cdv A outer s H E hr =>
    have tk : Takes (cxOf (L2.CX P w) P w K mg base n_times_of "times_of" (defScope s_times_of) (gaS K "times_of") cdv A outer s H E) (fun cls d _ H' => E cls d H') := takes_of rfl rfl rfl rfl
    (dss_one (ds_ret (de_if (dt_tru rfl (de_cb (id := "isinstance") (cr_isi rfl) sim_isi (by rfl) (T.bl 1) (by decide +kernel) (da_cons (de_v (pv 0)) (da_cons (de_c (pe_glob (v := .ref (gaS K "Ratio")) (by rfl) (T.gl 3) rfl) (fun _ => .cls "Ratio" (mem_ix 0))) da_nil)))) (de_op op_muls sim_mul (ck_prop (c := "Ratio") (pureF m_Ratio_top) rfl (mem_ix 0) (de_v (pv 0)) (T.tab.pr ("Ratio", "top") (mem_ix 1)) (ok_Ratio_top T) (hr.mono (by decide)) (.inr rfl) rfl) (de_op op_fdivX sim_fdiv (de_v (pv 1)) (ck_prop (c := "Ratio") (pureF m_Ratio_bottom) rfl (mem_ix 0) (de_v (pv 0)) (T.tab.pr ("Ratio", "bottom") (mem_ix 0)) (ok_Ratio_bottom T) (hr.mono (by decide)) (.inr rfl) rfl))) (de_op op_muls sim_mul (de_v (pv 0)) (de_v (pv 1))))))
noncomputable abbrev b_entries_in : MS := (mSeq (mAsg (mVar 0) (gT 3 (gsC (gN 1) (gsC (gN 2) (gsC (gN 3) gsN)))))
      (mSeq (mAsg (mLstC (mStar (mVar 1) (mStar (mVar 3) mNil))) (gN 4))
      (mSeq (mFor (mItS (mVar 2)) (gN 5)
      (mFor (mItS (mVar 5)) (gN 6)
      (mExpr (mLM oExtend (mVar 4) (mCons (mVar 6) mNil)))))
      (mRet (mVar 4)))))
noncomputable def m_entries_in : MF := mFun 1 7 b_entries_in
theorem ok_entries_in (T : Tx tab exK fns K mg) : OkB P w K mg base 1 (gaS K "entries_in") ["machine"] [] (spM T.G m_entries_in) :=
  okb_mk (T.c.def_ 12) (fun _ _ _ _ _ _ us hl => match us, hl with | [_], _ => rfl) fun fd F => fn_m (G := T.G) F sc_entries_in rfl T.jv fun cdv A outer s H E hr =>
    have tk : Takes (cxOf (L2.CX P w) P w K mg base n_entries_in "entries_in" (defScope s_entries_in) (gaS K "entries_in") cdv A outer s H E) (fun cls d _ H' => E cls d H') := takes_of rfl rfl rfl rfl
    (dss_cons (ds_asg (vs := [1, 2, 3]) (de_v (pv 0)) (dg_tup (n := 3) rfl (by rfl) (dgs_cons (dg_name T.stb (mem_ix 0) (pg_name (i := 1) sc_entries_in.nd rfl (Or.inl rfl))) (dgs_cons (dg_name T.stb (mem_ix 1) (pg_name (i := 2) sc_entries_in.nd rfl (Or.inl rfl))) (dgs_cons (dg_name T.stb (mem_ix 2) (pg_name (i := 3) sc_entries_in.nd rfl (Or.inl rfl))) dgs_nil)))) (fun p x => ps_asg p x))
      (dss_cons (ds_set (i := 4) T.stb (fun p => ps_set (i := 4) sc_entries_in.nd rfl (Or.inl rfl) p) (de_lstC (da_star rfl (de_v (pv 1)) (da_star rfl (de_v (pv 3)) da_nil))))
      (dss_cons (ds_for (vs := [5]) (passes_of rfl) (by rfl) (di_seq rfl (de_v (pv 2))) (dg_name T.stb (mem_ix 0) (pg_name (i := 5) sc_entries_in.nd rfl (Or.inl rfl)))
      (dss_one (ds_for (vs := [6]) (passes_of rfl) (by rfl) (di_seq rfl (de_v (pv 5))) (dg_name T.stb (mem_ix 0) (pg_name (i := 6) sc_entries_in.nd rfl (Or.inl rfl)))
      (dss_one (ds_expr (fun p => ps_expr p) (de_lm rfl (fun a b => pe_bm PySem.F.plainAttrs_list PySem.F.slot_list_extend PySem.F.type_list_extend (mt_extend' (G := T.G) rfl) a b) sim_extend (de_v (pv 4)) (da_cons (de_v (pv 6)) da_nil)))))))
      (dss_one (ds_ret (de_v (pv 4)))))))
noncomputable abbrev b_WholeMachine_grown : MS := (mRet (mLc [2] (mItS (mVar 1)) (gN 2) mYes (mCall (withD [] (pureF m_times_of)) (mCons (mVar 2) (mCons (mFld "own_whole" (mVar 0)) mNil)))))
noncomputable def m_WholeMachine_grown : MF := mFun 2 3 b_WholeMachine_grown
theorem ok_WholeMachine_grown (T : Tx tab exK fns K mg) : OkB P w K mg base 4 (maS K "WholeMachine" "grown") ["self", "row"] [] (spM T.G m_WholeMachine_grown) :=
  okb_mk (T.c.def_ 13) (fun _ _ _ _ _ _ us hl => match us, hl with | [_, _], _ => rfl) fun fd F => fn_m (G := T.G) F sc_WholeMachine_grown rfl T.jv fun cdv A outer s H E hr =>
    have tk : Takes (cxOf (L2.CX P w) P w K mg base n_WholeMachine_grown "WholeMachine.grown" (defScope s_WholeMachine_grown) (maS K "WholeMachine" "grown") cdv A outer s H E) (fun cls d _ H' => E cls d H') := takes_of rfl rfl rfl rfl
    (dss_one (ds_ret (de_lc (own := [("entry", 2)]) T.stb (by rfl) sc_WholeMachine_grown.nd (by exact (di_seq rfl (de_v (pv 1)))) (blkOk_by (own := [("entry", 2)]) (N := n_WholeMachine_grown) (sc := defScope s_WholeMachine_grown) (by decide +kernel)) (fun _ => by exact (dg_name T.stb (mem_ix 0) (pg_name (i := 2) sc_WholeMachine_grown.nd rfl (Or.inl rfl)))) (fun _ => by exact dts_nil) (fun _ => by exact (ck_pcall (ok_times_of T) dfl_nil (hr.mono (by decide)) (by rfl) (T.gl 6) takes0 (da_cons (de_v (pv 2)) (da_cons (de_fld (f := "own_whole") rfl (T.fl 2) (de_v (pv 0)) rfl) da_nil)))))))
noncomputable abbrev b_WholeMachine___init__ : MS := (mSeq (mAsg (mVar 1) (gT 3 (gsC (gN 2) (gsC (gN 3) (gsC (gN 4) gsN)))))
      (mSeq (mAsg (mC (.int 1)) (gN 5))
      (mSeq (mFor (mItS (mCall (withD [] (pureF m_entries_in)) (mCons (mVar 1) mNil))) (gN 6)
      (mAsg (mBin oFdiv (mBin oMul (mVar 5) (mCall (withD [] (pureF m_bottom_of)) (mCons (mVar 6) mNil))) (mCall (withD [] (pureF m_greatest_divisor)) (mCons (mVar 5) (mCons (mCall (withD [] (pureF m_bottom_of)) (mCons (mVar 6) mNil)) mNil)))) (gN 5)))
      (mSeq (mSetF "own_whole" (mVar 0) (mVar 5))
      (mSeq (mSetF "own_begin" (mVar 0) (mMeth "WholeMachine" "grown" (withD [] m_WholeMachine_grown) (mVar 0) (mCons (mVar 2) mNil)))
      (mSeq (mSetF "own_matrices" (mVar 0) (mLc [7] (mItS (mVar 3)) (gN 7) mYes (mLc [8] (mItS (mVar 7)) (gN 8) mYes (mMeth "WholeMachine" "grown" (withD [] m_WholeMachine_grown) (mVar 0) (mCons (mVar 8) mNil)))))
      (mSetF "own_final" (mVar 0) (mMeth "WholeMachine" "grown" (withD [] m_WholeMachine_grown) (mVar 0) (mCons (mVar 4) mNil)))))))))
noncomputable def m_WholeMachine___init__ : MF := mFun 2 9 b_WholeMachine___init__
theorem ok_WholeMachine___init__ (T : Tx tab exK fns K mg) : OkB P w K mg base 5 (maS K "WholeMachine" "__init__") ["self", "machine"] [] (spM T.G m_WholeMachine___init__) :=
  okb_mk (T.c.def_ 14) (fun _ _ _ _ _ _ us hl => match us, hl with | [_, _], _ => rfl) fun fd F => fn_m (G := T.G) F sc_WholeMachine___init__ rfl T.jv fun cdv A outer s H E hr =>
    have tk : Takes (cxOf (L2.CX P w) P w K mg base n_WholeMachine___init__ "WholeMachine.__init__" (defScope s_WholeMachine___init__) (maS K "WholeMachine" "__init__") cdv A outer s H E) (fun cls d _ H' => E cls d H') := takes_of rfl rfl rfl rfl
    (dss_cons (ds_asg (vs := [2, 3, 4]) (de_v (pv 1)) (dg_tup (n := 3) rfl (by rfl) (dgs_cons (dg_name T.stb (mem_ix 0) (pg_name (i := 2) sc_WholeMachine___init__.nd rfl (Or.inl rfl))) (dgs_cons (dg_name T.stb (mem_ix 1) (pg_name (i := 3) sc_WholeMachine___init__.nd rfl (Or.inl rfl))) (dgs_cons (dg_name T.stb (mem_ix 2) (pg_name (i := 4) sc_WholeMachine___init__.nd rfl (Or.inl rfl))) dgs_nil)))) (fun p x => ps_asg p x))
      (dss_cons (ds_set (i := 5) T.stb (fun p => ps_set (i := 5) sc_WholeMachine___init__.nd rfl (Or.inl rfl) p) de_int)
      (dss_cons (ds_for (vs := [6]) (passes_of rfl) (by rfl) (di_seq rfl (ck_pcall (ok_entries_in T) dfl_nil (hr.mono (by decide)) (by rfl) (T.gl 7) tk (da_cons (de_v (pv 1)) da_nil))) (dg_name T.stb (mem_ix 0) (pg_name (i := 6) sc_WholeMachine___init__.nd rfl (Or.inl rfl)))
      (dss_one (ds_set (i := 5) T.stb (fun p => ps_set (i := 5) sc_WholeMachine___init__.nd rfl (Or.inl rfl) p) (de_op op_fdivX sim_fdiv (de_op op_muls sim_mul (de_v (pv 5)) (ck_pcall (ok_bottom_of T) dfl_nil (hr.mono (by decide)) (by rfl) (T.gl 8) tk (da_cons (de_v (pv 6)) da_nil))) (ck_pcall (ok_greatest_divisor T) dfl_nil (hr.mono (by decide)) (by rfl) (T.gl 2) tk (da_cons (de_v (pv 5)) (da_cons (ck_pcall (ok_bottom_of T) dfl_nil (hr.mono (by decide)) (by rfl) (T.gl 8) tk (da_cons (de_v (pv 6)) da_nil)) da_nil)))))))
      (dss_cons (ds_setF (f := "own_whole") rfl (T.fl 2) (de_v (pv 0)) (de_v (pv 5)) rfl)
      (dss_cons (ds_setF (f := "own_begin") rfl (T.fl 3) (de_v (pv 0)) (ck_meth (c := "WholeMachine") (mth := "grown") (withD [] m_WholeMachine_grown) rfl (mem_ix 1) (de_v (pv 0)) (T.tab.me ("WholeMachine", "grown") (mem_ix 0)) (ok_WholeMachine_grown T) (hr.mono (by decide)) dfl_nil tk (.inl rfl) (da_cons (de_v (pv 2)) da_nil)) rfl)
      (dss_cons (ds_setF (f := "own_matrices") rfl (T.fl 4) (de_v (pv 0)) (de_lc (own := [("matrix", 7)]) T.stb (by rfl) sc_WholeMachine___init__.nd (by exact (di_seq rfl (de_v (pv 3)))) (blkOk_by (own := [("matrix", 7)]) (N := n_WholeMachine___init__) (sc := defScope s_WholeMachine___init__) (by decide +kernel)) (fun _ => by exact (dg_name T.stb (mem_ix 0) (pg_name (i := 7) sc_WholeMachine___init__.nd rfl (Or.inl rfl)))) (fun _ => by exact dts_nil) (fun _ => by exact (de_lc (own := [("line", 8)]) T.stb (by rfl) sc_WholeMachine___init__.nd (by exact (di_seq rfl (de_v (pv 7)))) (blkOk_by (own := [("line", 8)]) (N := n_WholeMachine___init__) (sc := { kind := .function, names := [(".0", .local), ("matrix", .local), ("self", .cell)], isGenerator := false, isCoroutine := false, more := [] }) (by decide +kernel)) (fun _ => by exact (dg_name T.stb (mem_ix 0) (pg_name (i := 8) sc_WholeMachine___init__.nd rfl (Or.inl rfl)))) (fun _ => by exact dts_nil) (fun _ => by exact (ck_meth (c := "WholeMachine") (mth := "grown") (withD [] m_WholeMachine_grown) rfl (mem_ix 1) (de_v (pv 0)) (T.tab.me ("WholeMachine", "grown") (mem_ix 0)) (ok_WholeMachine_grown T) (hr.mono (by decide)) dfl_nil takes0 (.inl rfl) (da_cons (de_v (pv 8)) da_nil)))))) rfl)
      (dss_one (ds_setF (f := "own_final") rfl (T.fl 5) (de_v (pv 0)) (ck_meth (c := "WholeMachine") (mth := "grown") (withD [] m_WholeMachine_grown) rfl (mem_ix 1) (de_v (pv 0)) (T.tab.me ("WholeMachine", "grown") (mem_ix 0)) (ok_WholeMachine_grown T) (hr.mono (by decide)) dfl_nil tk (.inl rfl) (da_cons (de_v (pv 4)) da_nil)) rfl))))))))
noncomputable abbrev b_WholeMachine_further : MS := (mSeq (mAsg (mBin oIx (mFld "own_matrices" (mVar 0)) (mVar 2)) (gN 3))
      (mRet (mLc [4] (mItR1 (mCons (mCB oLen (mCons (mVar 1) mNil)) mNil)) (gN 4) mYes (mCall (withD [] (pureF m_dotted)) (mCons (mVar 1) (mCons (mLc [5] (mItS (mVar 3)) (gN 5) mYes (mBin oIx (mVar 5) (mVar 4))) mNil))))))
noncomputable def m_WholeMachine_further : MF := mFun 3 6 b_WholeMachine_further
theorem ok_WholeMachine_further (T : Tx tab exK fns K mg) : OkB P w K mg base 2 (maS K "WholeMachine" "further") ["self", "row", "figure"] [] (spM T.G m_WholeMachine_further) :=
  okb_mk (T.c.def_ 15) (fun _ _ _ _ _ _ us hl => match us, hl with | [_, _, _], _ => rfl) fun fd F => fn_m (G := T.G) F sc_WholeMachine_further rfl T.jv fun cdv A outer s H E hr =>
    have tk : Takes (cxOf (L2.CX P w) P w K mg base n_WholeMachine_further "WholeMachine.further" (defScope s_WholeMachine_further) (maS K "WholeMachine" "further") cdv A outer s H E) (fun cls d _ H' => E cls d H') := takes_of rfl rfl rfl rfl
    (dss_cons (ds_set (i := 3) T.stb (fun p => ps_set (i := 3) sc_WholeMachine_further.nd rfl (Or.inr rfl) p) (de_ix rfl (de_fld (f := "own_matrices") rfl (T.fl 4) (de_v (pv 0)) rfl) (de_v (pv 2)) (fun _ _ => rfl)))
      (dss_one (ds_ret (de_lc (own := [("column", 4)]) T.stb (by rfl) sc_WholeMachine_further.nd (by exact (di_range1 (fun p => pi_range1 (by rfl) (T.bl 9) p) (da_cons (de_cb (id := "len") (cr_len rfl) sim_len (by rfl) (T.bl 6) (by decide +kernel) (da_cons (de_v (pv 1)) da_nil)) da_nil))) (blkOk_by (own := [("column", 4)]) (N := n_WholeMachine_further) (sc := defScope s_WholeMachine_further) (by decide +kernel)) (fun _ => by exact (dg_name T.stb (mem_ix 0) (pg_name (i := 4) sc_WholeMachine_further.nd rfl (Or.inr rfl)))) (fun _ => by exact dts_nil) (fun _ => by exact (ck_pcall (ok_dotted T) dfl_nil (hr.mono (by decide)) (by rfl) (T.gl 9) takes0 (da_cons (de_v (pv 1)) (da_cons (de_lc (own := [("line", 5)]) T.stb (by rfl) sc_WholeMachine_further.nd (by exact (di_seq rfl (de_v (pv 3)))) (blkOk_by (own := [("line", 5)]) (N := n_WholeMachine_further) (sc := { kind := .function, names := [(".0", .local), ("column", .cell), ("dotted", .globalImplicit), ("matrix", .cell), ("row", .cell)], isGenerator := false, isCoroutine := false, more := [] }) (by decide +kernel)) (fun _ => by exact (dg_name T.stb (mem_ix 0) (pg_name (i := 5) sc_WholeMachine_further.nd rfl (Or.inl rfl)))) (fun _ => by exact dts_nil) (fun _ => by exact (de_ix rfl (de_v (pv 5)) (de_v (pv 4)) (fun _ _ => rfl)))) da_nil))))))))
noncomputable abbrev b_WholeMachine_worth_of : MS := (mRet (mCall (withD [] (pureF m_dotted)) (mCons (mVar 1) (mCons (mFld "own_final" (mVar 0)) mNil))))
noncomputable def m_WholeMachine_worth_of : MF := mFun 2 2 b_WholeMachine_worth_of
theorem ok_WholeMachine_worth_of (T : Tx tab exK fns K mg) : OkB P w K mg base 2 (maS K "WholeMachine" "worth_of") ["self", "row"] [] (spM T.G m_WholeMachine_worth_of) :=
  okb_mk (T.c.def_ 16) (fun _ _ _ _ _ _ us hl => match us, hl with | [_, _], _ => rfl) fun fd F => fn_m (G := T.G) F sc_WholeMachine_worth_of rfl T.jv fun cdv A outer s H E hr =>
    have tk : Takes (cxOf (L2.CX P w) P w K mg base n_WholeMachine_worth_of "WholeMachine.worth_of" (defScope s_WholeMachine_worth_of) (maS K "WholeMachine" "worth_of") cdv A outer s H E) (fun cls d _ H' => E cls d H') := takes_of rfl rfl rfl rfl
    (dss_one (ds_ret (ck_pcall (ok_dotted T) dfl_nil (hr.mono (by decide)) (by rfl) (T.gl 9) tk (da_cons (de_v (pv 1)) (da_cons (de_fld (f := "own_final") rfl (T.fl 5) (de_v (pv 0)) rfl) da_nil)))))
noncomputable abbrev b_is_word : MS := (mRet (mAnd (mCB oIsi (mCons (mVar 0) (mCons (mC (.ty "tuple")) mNil))) (mCB oAll (mCons (mLc [2] (mItS (mVar 0)) (gN 2) mYes (mCall (withD [] (pureF m_is_between)) (mCons (mVar 2) (mCons (mC (.int 0)) (mCons (mBin oSub (mVar 1) (mC (.int 1))) mNil))))) mNil))))
noncomputable def m_is_word : MF := mFun 2 3 b_is_word
theorem ok_is_word (T : Tx tab exK fns K mg) : OkB P w K mg base 3 (gaS K "is_word") ["value", "size"] [] (spM T.G m_is_word) :=
  okb_mk (T.c.def_ 17) (fun _ _ _ _ _ _ us hl => match us, hl with | [_, _], _ => rfl) fun fd F => fn_m (G := T.G) F sc_is_word rfl T.jv fun cdv A outer s H E hr =>
    have tk : Takes (cxOf (L2.CX P w) P w K mg base n_is_word "is_word" (defScope s_is_word) (gaS K "is_word") cdv A outer s H E) (fun cls d _ H' => E cls d H') := takes_of rfl rfl rfl rfl
    (dss_one (ds_ret (de_and (de_cb (id := "isinstance") (cr_isi rfl) sim_isi (by rfl) (T.bl 1) (by decide +kernel) (da_cons (de_v (pv 0)) (da_cons (de_c (pe_bltn (v := .ty "tuple") (by rfl) (T.bl 7) (by decide +kernel) rfl) (fun _ => .ty "tuple")) da_nil))) (de_one (de_cb (id := "all") (cr_all' rfl (by rfl)) sim_all (by rfl) (T.bl 8) (by decide +kernel) (da_cons (de_lc (own := [("figure", 2)]) T.stb (by rfl) sc_is_word.nd (by exact (di_seq rfl (de_v (pv 0)))) (blkOk_by (own := [("figure", 2)]) (N := n_is_word) (sc := defScope s_is_word) (by decide +kernel)) (fun _ => by exact (dg_name T.stb (mem_ix 0) (pg_name (i := 2) sc_is_word.nd rfl (Or.inl rfl)))) (fun _ => by exact dts_nil) (fun _ => by exact (ck_pcall (ok_is_between T) dfl_nil (hr.mono (by decide)) (by rfl) (T.gl 10) takes0 (da_cons (de_v (pv 2)) (da_cons de_int (da_cons (de_op op_sub sim_sub (de_v (pv 1)) de_int) da_nil)))))) da_nil))))))
noncomputable abbrev b_machine_value : MS := (mSeq (mIfS (mNotT (mTru (mCall (withD [] (pureF m_is_machine)) (mCons (mVar 0) mNil)))) (mRaise "InvalidMachine" ["value"] (mCons (mVarI 0) mNil)) mSkip)
      (mSeq (mIfS (mNotT (mTru (mCall (withD [] (pureF m_is_word)) (mCons (mVar 1) (mCons (mCB oLen (mCons (mBin oIx (mVar 0) (mC (.int 1))) mNil)) mNil))))) (mRaise "InvalidFigures" ["value"] (mCons (mVar 1) mNil)) mSkip)
      (mSeq (mAsg (mCall (makeP "WholeMachine" (withD [] m_WholeMachine___init__)) (mCons (mVar 0) mNil)) (gN 2))
      (mSeq (mPar [3, 4] (mCons (mFld "own_begin" (mVar 2)) (mCons (mBin oMul (mFld "own_whole" (mVar 2)) (mFld "own_whole" (mVar 2))) mNil)))
      (mSeq (mFor (mItS (mVar 1)) (gN 5)
      (mPar [3, 4] (mCons (mMeth "WholeMachine" "further" (withD [] (pureF m_WholeMachine_further)) (mVar 2) (mCons (mVar 3) (mCons (mVar 5) mNil))) (mCons (mBin oMul (mVar 4) (mFld "own_whole" (mVar 2))) mNil))))
      (mRet (mCall (makeP "Ratio" (withD [] m_Ratio___init__)) (mCons (mMeth "WholeMachine" "worth_of" (withD [] (pureF m_WholeMachine_worth_of)) (mVar 2) (mCons (mVar 3) mNil)) (mCons (mVar 4) mNil)))))))))
noncomputable def m_machine_value : MF := mFun 2 6 b_machine_value
theorem ok_machine_value (T : Tx tab exK fns K mg) : OkB P w K mg base 7 (gaS K "machine_value") ["machine", "word"] [] (spM T.G m_machine_value) :=
  okb_mk (T.c.def_ 18) (fun _ _ _ _ _ _ us hl => match us, hl with | [_, _], _ => rfl) fun fd F => fn_m (G := T.G) F sc_machine_value rfl T.jv fun cdv A outer s H E hr =>
    have tk : Takes (cxOf (L2.CX P w) P w K mg base n_machine_value "machine_value" (defScope s_machine_value) (gaS K "machine_value") cdv A outer s H E) (fun cls d _ H' => E cls d H') := takes_of rfl rfl rfl rfl
    (dss_cons (ds_if (dt_not (dt_tru rfl (ck_pcall (ok_is_machine T) dfl_nil (hr.mono (by decide)) (by rfl) (T.gl 11) tk (da_cons (de_v (pv 0)) da_nil)))) (dss_one (ds_raise1 (c := "InvalidMachine") (mem_ix 1) (fun p => ps_raise (by rfl) tk (pmk_oex (T.tab.xs "InvalidMachine" (mem_ix 1)).oex (T.tab.xs "InvalidMachine" (mem_ix 1)).iC (T.tab.xs "InvalidMachine" (mem_ix 1)).tI (ok_x_InvalidMachine T).choose_spec.1 (hr.mono (by decide)) (ok_x_InvalidMachine T).choose_spec.2 .nil pass0 (by rfl) (T.gl 12) p)) (da_cons (de_vI (pv 0)) da_nil))) dss_nil)
      (dss_cons (ds_if (dt_not (dt_tru rfl (ck_pcall (ok_is_word T) dfl_nil (hr.mono (by decide)) (by rfl) (T.gl 13) tk (da_cons (de_v (pv 1)) (da_cons (de_cb (id := "len") (cr_len rfl) sim_len (by rfl) (T.bl 6) (by decide +kernel) (da_cons (de_ix rfl (de_v (pv 0)) de_int (fun _ _ => rfl)) da_nil)) da_nil))))) (dss_one (ds_raise1 (c := "InvalidFigures") (mem_ix 2) (fun p => ps_raise (by rfl) tk (pmk_oex (T.tab.xs "InvalidFigures" (mem_ix 2)).oex (T.tab.xs "InvalidFigures" (mem_ix 2)).iC (T.tab.xs "InvalidFigures" (mem_ix 2)).tI (ok_x_InvalidFigures T).choose_spec.1 (hr.mono (by decide)) (ok_x_InvalidFigures T).choose_spec.2 .nil pass0 (by rfl) (T.gl 14) p)) (da_cons (de_v (pv 1)) da_nil))) dss_nil)
      (dss_cons (ds_set (i := 2) T.stb (fun p => ps_set (i := 2) sc_machine_value.nd rfl (Or.inl rfl) p) (ck_makeP (c := "WholeMachine") rfl (mem_ix 1) (T.tab.ms "WholeMachine" (mem_ix 0)) (ok_WholeMachine___init__ T) (hr.mono (by decide)) (by rfl) (T.gl 15) dfl_nil tk (da_cons (de_v (pv 0)) da_nil)))
      (dss_cons (ds_par T.stb (fun p => ps_par (i := 3) (j := 4) (by rfl) sc_machine_value.nd rfl rfl (by decide) rfl rfl p (by rfl)) (da_cons (de_fld (f := "own_begin") rfl (T.fl 3) (de_v (pv 2)) rfl) (da_cons (de_op op_muls sim_mul (de_fld (f := "own_whole") rfl (T.fl 2) (de_v (pv 2)) rfl) (de_fld (f := "own_whole") rfl (T.fl 2) (de_v (pv 2)) rfl)) da_nil)))
      (dss_cons (ds_for (vs := [5]) (passes_of rfl) (by rfl) (di_seq rfl (de_v (pv 1))) (dg_name T.stb (mem_ix 0) (pg_name (i := 5) sc_machine_value.nd rfl (Or.inl rfl)))
      (dss_one (ds_par T.stb (fun p => ps_par (i := 3) (j := 4) (by rfl) sc_machine_value.nd rfl rfl (by decide) rfl rfl p (by rfl)) (da_cons (ck_meth (c := "WholeMachine") (mth := "further") (withD [] (pureF m_WholeMachine_further)) rfl (mem_ix 1) (de_v (pv 2)) (T.tab.me ("WholeMachine", "further") (mem_ix 1)) (ok_WholeMachine_further T) (hr.mono (by decide)) dfl_nil tk (.inr rfl) (da_cons (de_v (pv 3)) (da_cons (de_v (pv 5)) da_nil))) (da_cons (de_op op_muls sim_mul (de_v (pv 4)) (de_fld (f := "own_whole") rfl (T.fl 2) (de_v (pv 2)) rfl)) da_nil)))))
      (dss_one (ds_ret (ck_makeP (c := "Ratio") rfl (mem_ix 0) (T.tab.ms "Ratio" (mem_ix 1)) (ok_Ratio___init__ T) (hr.mono (by decide)) (by rfl) (T.gl 3) dfl_nil tk (da_cons (ck_meth (c := "WholeMachine") (mth := "worth_of") (withD [] (pureF m_WholeMachine_worth_of)) rfl (mem_ix 1) (de_v (pv 2)) (T.tab.me ("WholeMachine", "worth_of") (mem_ix 2)) (ok_WholeMachine_worth_of T) (hr.mono (by decide)) dfl_nil tk (.inr rfl) (da_cons (de_v (pv 3)) da_nil)) (da_cons (de_v (pv 4)) da_nil))))))))))
noncomputable abbrev b_l_pool : MS := (mSeq (mAsg (mC (.int 0)) (gN 2))
      (mSeq (mIfS (mTst (mBin oLt (mVar 1) (mCB oLen (mCons (mVar 0) mNil)))) (mAsg (mBin oIx (mVar 0) (mVar 1)) (gN 2)) mSkip)
      (mSeq (mAsg (mBin oMod (mBin oPow (mBin oAdd (mBin oAdd (mBin oMod (mCB oInt (mCons (mVar 2) mNil)) (mC (.int 2147483629))) (mBin oMul (mBin oMul (mC (.int 7919)) (mVar 1)) (mVar 1))) (mC (.int 31))) (mC (.int 3))) (mC (.int 2147483647))) (gN 3))
      (mSeq (mIfS (mTst (mBin oLt (mVar 2) (mBin oPow (mC (.int 10)) (mC (.int 18))))) (mAsg (mC (.int 0)) (gN 2)) mSkip)
      (mRet (mLstC (mCons (mVar 2) (mCons (mVar 3) mNil))))))))
noncomputable def m_l_pool : MF := mFun 2 4 b_l_pool
theorem ok_l_pool (T : Tx tab exK fns K mg) : OkB P w K mg base 1 (gaS K "_law_pool") ["_law_script", "_law_k"] [] (spM T.G m_l_pool) :=
  okb_mk (T.c.def_ 19) (fun _ _ _ _ _ _ us hl => match us, hl with | [_, _], _ => rfl) fun fd F => fn_m (G := T.G) F sc_l_pool rfl T.jv fun cdv A outer s H E hr =>
    have tk : Takes (cxOf (L2.CX P w) P w K mg base n_l_pool "_law_pool" (defScope s_l_pool) (gaS K "_law_pool") cdv A outer s H E) (fun cls d _ H' => E cls d H') := takes_of rfl rfl rfl rfl
    (dss_cons (ds_set (i := 2) T.stb (fun p => ps_set (i := 2) sc_l_pool.nd rfl (Or.inl rfl) p) de_int)
      (dss_cons (ds_if (dt_cmp op_lt sim_lt (de_v (pv 1)) (de_cb (id := "len") (cr_len rfl) sim_len (by rfl) (T.bl 6) (by decide +kernel) (da_cons (de_v (pv 0)) da_nil)) (nomark _)) (dss_one (ds_set (i := 2) T.stb (fun p => ps_set (i := 2) sc_l_pool.nd rfl (Or.inl rfl) p) (de_ix rfl (de_v (pv 0)) (de_v (pv 1)) (fun _ _ => rfl)))) dss_nil)
      (dss_cons (ds_set (i := 3) T.stb (fun p => ps_set (i := 3) sc_l_pool.nd rfl (Or.inl rfl) p) (de_op op_modN sim_mod (de_op op_pow sim_pow (de_op (op_adds rfl) sim_add (de_op (op_adds rfl) sim_add (de_op op_modN sim_mod (de_ct (T := "int") call_int1 sim_int (by rfl) (T.bl 2) (by decide +kernel) (da_cons (de_v (pv 2)) da_nil)) de_int) (de_op op_muls sim_mul (de_op op_muls sim_mul de_int (de_v (pv 1))) (de_v (pv 1)))) de_int) de_int) de_int))
      (dss_cons (ds_if (dt_cmp op_lt sim_lt (de_v (pv 2)) (de_op op_pow sim_pow de_int de_int) (nomark _)) (dss_one (ds_set (i := 2) T.stb (fun p => ps_set (i := 2) sc_l_pool.nd rfl (Or.inl rfl) p) de_int)) dss_nil)
      (dss_one (ds_ret (de_lstC (da_cons (de_v (pv 2)) (da_cons (de_v (pv 3)) da_nil)))))))))
noncomputable abbrev b_l_draw : MS := (mSeq (mIfS (mTst (mBin oGt (mBin oIx (mVar 0) (mC (.int 0))) (mC (.int 0)))) (mSeq (mAsg (mBin oMod (mCB oInt (mCons (mBin oIx (mVar 0) (mC (.int 0))) mNil)) (mVar 1)) (gN 2))
      (mSeq (mSetI (mVar 0) (mC (.int 0)) (mBin oFdiv (mBin oIx (mVar 0) (mC (.int 0))) (mVar 1)))
      (mRet (mVar 2)))) mSkip)
      (mSeq (mSetI (mVar 0) (mC (.int 1)) (mBin oMod (mCB oInt (mCons (mBin oAdd (mBin oMul (mBin oIx (mVar 0) (mC (.int 1))) (mC (.int 48271))) (mC (.int 11))) mNil)) (mC (.int 2147483647))))
      (mRet (mBin oMod (mBin oFdiv (mBin oMod (mCB oInt (mCons (mBin oMul (mBin oIx (mVar 0) (mC (.int 1))) (mBin oIx (mVar 0) (mC (.int 1)))) mNil)) (mC (.int 2147483629))) (mC (.int 64))) (mVar 1)))))
noncomputable def m_l_draw : MF := mFun 2 3 b_l_draw
theorem ok_l_draw (T : Tx tab exK fns K mg) : OkB P w K mg base 1 (gaS K "_law_draw") ["_law_pool_here", "_law_many"] [] (spM T.G m_l_draw) :=
  okb_mk (T.c.def_ 20) (fun _ _ _ _ _ _ us hl => match us, hl with | [_, _], _ => rfl) fun fd F => fn_m (G := T.G) F sc_l_draw rfl T.jv fun cdv A outer s H E hr =>
    have tk : Takes (cxOf (L2.CX P w) P w K mg base n_l_draw "_law_draw" (defScope s_l_draw) (gaS K "_law_draw") cdv A outer s H E) (fun cls d _ H' => E cls d H') := takes_of rfl rfl rfl rfl
    (dss_cons (ds_if (dt_cmp op_gt sim_gt (de_ix rfl (de_v (pv 0)) de_int (fun _ _ => rfl)) de_int (nomark _)) (dss_cons (ds_set (i := 2) T.stb (fun p => ps_set (i := 2) sc_l_draw.nd rfl (Or.inl rfl) p) (de_op op_modN sim_mod (de_ct (T := "int") call_int1 sim_int (by rfl) (T.bl 2) (by decide +kernel) (da_cons (de_ix rfl (de_v (pv 0)) de_int (fun _ _ => rfl)) da_nil)) (de_v (pv 1))))
      (dss_cons (ds_setI (de_v (pv 0)) de_int (de_op op_fdivX sim_fdiv (de_ix rfl (de_v (pv 0)) de_int (fun _ _ => rfl)) (de_v (pv 1))) (fun p x y => ps_asg p (pg_sub x y set_list)))
      (dss_one (ds_ret (de_v (pv 2)))))) dss_nil)
      (dss_cons (ds_setI (de_v (pv 0)) de_int (de_op op_modN sim_mod (de_ct (T := "int") call_int1 sim_int (by rfl) (T.bl 2) (by decide +kernel) (da_cons (de_op (op_adds rfl) sim_add (de_op op_muls sim_mul (de_ix rfl (de_v (pv 0)) de_int (fun _ _ => rfl)) de_int) de_int) da_nil)) de_int) (fun p x y => ps_asg p (pg_sub x y set_list)))
      (dss_one (ds_ret (de_op op_modN sim_mod (de_op op_fdivX sim_fdiv (de_op op_modN sim_mod (de_ct (T := "int") call_int1 sim_int (by rfl) (T.bl 2) (by decide +kernel) (da_cons (de_op op_muls sim_mul (de_ix rfl (de_v (pv 0)) de_int (fun _ _ => rfl)) (de_ix rfl (de_v (pv 0)) de_int (fun _ _ => rfl))) da_nil)) de_int) de_int) (de_v (pv 1)))))))
noncomputable abbrev b_l_entry : MS := (mSeq (mAsg (mBin oSub (mCall (withD [] m_l_draw) (mCons (mVar 0) (mCons (mC (.int 7)) mNil))) (mC (.int 3))) (gN 1))
      (mRet (mIf (mTst (mBin oEq (mCall (withD [] m_l_draw) (mCons (mVar 0) (mCons (mC (.int 2)) mNil))) (mC (.int 0)))) (mLst (mCons (mVar 1) (mCons (mC (.int 1)) mNil))) (mLst (mCons (mVar 1) (mCons (mBin oAdd (mC (.int 1)) (mCall (withD [] m_l_draw) (mCons (mVar 0) (mCons (mC (.int 4)) mNil)))) mNil))))))
noncomputable def m_l_entry : MF := mFun 1 2 b_l_entry
theorem ok_l_entry (T : Tx tab exK fns K mg) : OkB P w K mg base 2 (gaS K "_law_entry") ["_law_pool_here"] [] (spM T.G m_l_entry) :=
  okb_mk (T.c.def_ 21) (fun _ _ _ _ _ _ us hl => match us, hl with | [_], _ => rfl) fun fd F => fn_m (G := T.G) F sc_l_entry rfl T.jv fun cdv A outer s H E hr =>
    have tk : Takes (cxOf (L2.CX P w) P w K mg base n_l_entry "_law_entry" (defScope s_l_entry) (gaS K "_law_entry") cdv A outer s H E) (fun cls d _ H' => E cls d H') := takes_of rfl rfl rfl rfl
    (dss_cons (ds_set (i := 1) T.stb (fun p => ps_set (i := 1) sc_l_entry.nd rfl (Or.inl rfl) p) (de_op op_sub sim_sub (ck_call (ok_l_draw T) dfl_nil (hr.mono (by decide)) (by rfl) (T.gl 16) tk (da_cons (de_v (pv 0)) (da_cons de_int da_nil))) de_int))
      (dss_one (ds_ret (de_if (dt_cmp (op_eq' rfl hr.units) sim_eq (ck_call (ok_l_draw T) dfl_nil (hr.mono (by decide)) (by rfl) (T.gl 16) tk (da_cons (de_v (pv 0)) (da_cons de_int da_nil))) de_int (nomark _)) (de_lst (da_cons (de_v (pv 1)) (da_cons de_int da_nil))) (de_lst (da_cons (de_v (pv 1)) (da_cons (de_op (op_adds rfl) sim_add de_int (ck_call (ok_l_draw T) dfl_nil (hr.mono (by decide)) (by rfl) (T.gl 16) tk (da_cons (de_v (pv 0)) (da_cons de_int da_nil)))) da_nil)))))))
noncomputable abbrev b_l_sum : MS := (mSeq (mAsg (mTup (mCons (mC (.int 0)) (mCons (mC (.int 1)) mNil))) (gT 2 (gsC (gN 2) (gsC (gN 3) gsN))))
      (mSeq (mFor (mItZ (mCons (mVar 0) (mCons (mVar 1) mNil))) (gT 2 (gsC (gN 4) (gsC (gN 5) gsN)))
      (mSeq (mAsg (mBin oAdd (mBin oMul (mBin oMul (mVar 2) (mBin oIx (mVar 4) (mC (.int 1)))) (mBin oIx (mVar 5) (mC (.int 1)))) (mBin oMul (mBin oMul (mBin oIx (mVar 4) (mC (.int 0))) (mBin oIx (mVar 5) (mC (.int 0)))) (mVar 3))) (gN 2))
      (mSeq (mAsg (mBin oMul (mBin oMul (mVar 3) (mBin oIx (mVar 4) (mC (.int 1)))) (mBin oIx (mVar 5) (mC (.int 1)))) (gN 3))
      (mFor (mItS (mLst (mCons (mC (.int 2)) (mCons (mC (.int 3)) mNil)))) (gN 6)
      (mWhile (mAndT (mTst (mBin oEq (mBin oMod (mCB oInt (mCons (mVar 2) mNil)) (mVar 6)) (mC (.int 0)))) (mAndT (mTst (mBin oEq (mBin oMod (mCB oInt (mCons (mVar 3) mNil)) (mVar 6)) (mC (.int 0)))) (mTst (mBin oNe (mVar 2) (mC (.int 0))))))
      (mPar [2, 3] (mCons (mBin oFdiv (mVar 2) (mVar 6)) (mCons (mBin oFdiv (mVar 3) (mVar 6)) mNil))))))))
      (mRet (mIf (mTst (mBin oEq (mVar 2) (mC (.int 0)))) (mLst (mCons (mC (.int 0)) (mCons (mC (.int 1)) mNil))) (mLst (mCons (mVar 2) (mCons (mVar 3) mNil)))))))
noncomputable def m_l_sum : MF := mFun 2 7 b_l_sum
theorem ok_l_sum (T : Tx tab exK fns K mg) : OkB P w K mg base 1 (gaS K "_law_sum") ["_law_one", "_law_other"] [] (spM T.G m_l_sum) :=
  okb_mk (T.c.def_ 22) (fun _ _ _ _ _ _ us hl => match us, hl with | [_, _], _ => rfl) fun fd F => fn_m (G := T.G) F sc_l_sum rfl T.jv fun cdv A outer s H E hr =>
    have tk : Takes (cxOf (L2.CX P w) P w K mg base n_l_sum "_law_sum" (defScope s_l_sum) (gaS K "_law_sum") cdv A outer s H E) (fun cls d _ H' => E cls d H') := takes_of rfl rfl rfl rfl
    (dss_cons (ds_asg (vs := [2, 3]) (de_tup (da_cons de_int (da_cons de_int da_nil))) (dg_tup (n := 2) rfl (by rfl) (dgs_cons (dg_name T.stb (mem_ix 0) (pg_name (i := 2) sc_l_sum.nd rfl (Or.inl rfl))) (dgs_cons (dg_name T.stb (mem_ix 1) (pg_name (i := 3) sc_l_sum.nd rfl (Or.inl rfl))) dgs_nil))) (fun p x => ps_asg p x))
      (dss_cons (ds_for (vs := [4, 5]) (passes_of rfl) (by rfl) (di_zip rfl (fun p => pi_zip (by rfl) (T.bl 4) p) (da_cons (de_v (pv 0)) (da_cons (de_v (pv 1)) da_nil))) (dg_tup (n := 2) rfl (by rfl) (dgs_cons (dg_name T.stb (mem_ix 0) (pg_name (i := 4) sc_l_sum.nd rfl (Or.inl rfl))) (dgs_cons (dg_name T.stb (mem_ix 1) (pg_name (i := 5) sc_l_sum.nd rfl (Or.inl rfl))) dgs_nil)))
      (dss_cons (ds_set (i := 2) T.stb (fun p => ps_set (i := 2) sc_l_sum.nd rfl (Or.inl rfl) p) (de_op (op_adds rfl) sim_add (de_op op_muls sim_mul (de_op op_muls sim_mul (de_v (pv 2)) (de_ix rfl (de_v (pv 4)) de_int (fun _ _ => rfl))) (de_ix rfl (de_v (pv 5)) de_int (fun _ _ => rfl))) (de_op op_muls sim_mul (de_op op_muls sim_mul (de_ix rfl (de_v (pv 4)) de_int (fun _ _ => rfl)) (de_ix rfl (de_v (pv 5)) de_int (fun _ _ => rfl))) (de_v (pv 3)))))
      (dss_cons (ds_set (i := 3) T.stb (fun p => ps_set (i := 3) sc_l_sum.nd rfl (Or.inl rfl) p) (de_op op_muls sim_mul (de_op op_muls sim_mul (de_v (pv 3)) (de_ix rfl (de_v (pv 4)) de_int (fun _ _ => rfl))) (de_ix rfl (de_v (pv 5)) de_int (fun _ _ => rfl))))
      (dss_one (ds_for (vs := [6]) (passes_of rfl) (by rfl) (di_seq rfl (de_lst (da_cons de_int (da_cons de_int da_nil)))) (dg_name T.stb (mem_ix 0) (pg_name (i := 6) sc_l_sum.nd rfl (Or.inl rfl)))
      (dss_one (ds_while (passes_of rfl) (DW.dt (dw_and (dt_cmp (op_eq' rfl hr.units) sim_eq (de_op op_modN sim_mod (de_ct (T := "int") call_int1 sim_int (by rfl) (T.bl 2) (by decide +kernel) (da_cons (de_v (pv 2)) da_nil)) (de_v (pv 6))) de_int (nomark _)) (dw_and (dt_cmp (op_eq' rfl hr.units) sim_eq (de_op op_modN sim_mod (de_ct (T := "int") call_int1 sim_int (by rfl) (T.bl 2) (by decide +kernel) (da_cons (de_v (pv 3)) da_nil)) (de_v (pv 6))) de_int (nomark _)) (dw_and1 (dt_cmp (op_ne' rfl hr.units) sim_ne (de_v (pv 2)) de_int (nomark _))))))
      (dss_one (ds_par T.stb (fun p => ps_par (i := 2) (j := 3) (by rfl) sc_l_sum.nd rfl rfl (by decide) rfl rfl p (by rfl)) (da_cons (de_op op_fdivX sim_fdiv (de_v (pv 2)) (de_v (pv 6))) (da_cons (de_op op_fdivX sim_fdiv (de_v (pv 3)) (de_v (pv 6))) da_nil)))))))))))
      (dss_one (ds_ret (de_if (dt_cmp (op_eq' rfl hr.units) sim_eq (de_v (pv 2)) de_int (nomark _)) (de_lst (da_cons de_int (da_cons de_int da_nil))) (de_lst (da_cons (de_v (pv 2)) (da_cons (de_v (pv 3)) da_nil))))))))
noncomputable abbrev b_l_row : MS := (mRet (mLc [2] (mItR1 (mCons (mCB oLen (mCons (mVar 0) mNil)) mNil)) (gN 2) mYes (mCall (withD [] (pureF m_l_sum)) (mCons (mVar 0) (mCons (mLc [3] (mItS (mVar 1)) (gN 3) mYes (mBin oIx (mVar 3) (mVar 2))) mNil)))))
noncomputable def m_l_row : MF := mFun 2 4 b_l_row
theorem ok_l_row (T : Tx tab exK fns K mg) : OkB P w K mg base 2 (gaS K "_law_row") ["_law_row_here", "_law_matrix"] [] (spM T.G m_l_row) :=
  okb_mk (T.c.def_ 23) (fun _ _ _ _ _ _ us hl => match us, hl with | [_, _], _ => rfl) fun fd F => fn_m (G := T.G) F sc_l_row rfl T.jv fun cdv A outer s H E hr =>
    have tk : Takes (cxOf (L2.CX P w) P w K mg base n_l_row "_law_row" (defScope s_l_row) (gaS K "_law_row") cdv A outer s H E) (fun cls d _ H' => E cls d H') := takes_of rfl rfl rfl rfl
    (dss_one (ds_ret (de_lc (own := [("_law_column", 2)]) T.stb (by rfl) sc_l_row.nd (by exact (di_range1 (fun p => pi_range1 (by rfl) (T.bl 9) p) (da_cons (de_cb (id := "len") (cr_len rfl) sim_len (by rfl) (T.bl 6) (by decide +kernel) (da_cons (de_v (pv 0)) da_nil)) da_nil))) (blkOk_by (own := [("_law_column", 2)]) (N := n_l_row) (sc := defScope s_l_row) (by decide +kernel)) (fun _ => by exact (dg_name T.stb (mem_ix 0) (pg_name (i := 2) sc_l_row.nd rfl (Or.inr rfl)))) (fun _ => by exact dts_nil) (fun _ => by exact (ck_pcall (ok_l_sum T) dfl_nil (hr.mono (by decide)) (by rfl) (T.gl 17) takes0 (da_cons (de_v (pv 0)) (da_cons (de_lc (own := [("_law_line", 3)]) T.stb (by rfl) sc_l_row.nd (by exact (di_seq rfl (de_v (pv 1)))) (blkOk_by (own := [("_law_line", 3)]) (N := n_l_row) (sc := { kind := .function, names := [(".0", .local), ("_law_column", .cell), ("_law_sum", .globalImplicit), ("_law_matrix", .cell), ("_law_row_here", .cell)], isGenerator := false, isCoroutine := false, more := [] }) (by decide +kernel)) (fun _ => by exact (dg_name T.stb (mem_ix 0) (pg_name (i := 3) sc_l_row.nd rfl (Or.inl rfl)))) (fun _ => by exact dts_nil) (fun _ => by exact (de_ix rfl (de_v (pv 3)) (de_v (pv 2)) (fun _ _ => rfl)))) da_nil)))))))
noncomputable abbrev b_l_shown : MS := (mRet (mIf (mTst (mBin oEq (mBin oIx (mVar 0) (mC (.int 1))) (mC (.int 1)))) (mBin oIx (mVar 0) (mC (.int 0))) (mCall (makeP "Ratio" (withD [] m_Ratio___init__)) (mCons (mBin oIx (mVar 0) (mC (.int 0))) (mCons (mBin oIx (mVar 0) (mC (.int 1))) mNil)))))
noncomputable def m_l_shown : MF := mFun 1 1 b_l_shown
theorem ok_l_shown (T : Tx tab exK fns K mg) : OkB P w K mg base 5 (gaS K "_law_shown") ["_law_entry_here"] [] (spM T.G m_l_shown) :=
  okb_mk (T.c.def_ 24) (fun _ _ _ _ _ _ us hl => match us, hl with | [_], _ => rfl) fun fd F => fn_m (G := T.G) F sc_l_shown rfl T.jv fun cdv A outer s H E hr =>
    have tk : Takes (cxOf (L2.CX P w) P w K mg base n_l_shown "_law_shown" (defScope s_l_shown) (gaS K "_law_shown") cdv A outer s H E) (fun cls d _ H' => E cls d H') := takes_of rfl rfl rfl rfl
    (dss_one (ds_ret (de_if (dt_cmp (op_eq' rfl hr.units) sim_eq (de_ix rfl (de_v (pv 0)) de_int (fun _ _ => rfl)) de_int (nomark _)) (de_ix rfl (de_v (pv 0)) de_int (fun _ _ => rfl)) (ck_makeP (c := "Ratio") rfl (mem_ix 0) (T.tab.ms "Ratio" (mem_ix 1)) (ok_Ratio___init__ T) (hr.mono (by decide)) (by rfl) (T.gl 3) dfl_nil tk (da_cons (de_ix rfl (de_v (pv 0)) de_int (fun _ _ => rfl)) (da_cons (de_ix rfl (de_v (pv 0)) de_int (fun _ _ => rfl)) da_nil))))))
noncomputable abbrev b_l_told : MS := (mSeq (mAsg (mLc [4] (mItS (mVar 1)) (gN 4) mYes (mCB oTuple (mCons (mLc [5] (mItS (mVar 4)) (gN 5) mYes (mCB oTuple (mCons (mLc [6] (mItS (mVar 5)) (gN 6) mYes (mCall (withD [] (pureF m_l_shown)) (mCons (mVar 6) mNil))) mNil))) mNil))) (gN 3))
      (mRet (mTup (mCons (mCB oTuple (mCons (mLc [6] (mItS (mVar 0)) (gN 6) mYes (mCall (withD [] (pureF m_l_shown)) (mCons (mVar 6) mNil))) mNil)) (mCons (mCB oTuple (mCons (mVar 3) mNil)) (mCons (mCB oTuple (mCons (mLc [6] (mItS (mVar 2)) (gN 6) mYes (mCall (withD [] (pureF m_l_shown)) (mCons (mVar 6) mNil))) mNil)) mNil))))))
noncomputable def m_l_told : MF := mFun 3 7 b_l_told
theorem ok_l_told (T : Tx tab exK fns K mg) : OkB P w K mg base 6 (gaS K "_law_told") ["_law_first", "_law_matrices", "_law_last"] [] (spM T.G m_l_told) :=
  okb_mk (T.c.def_ 25) (fun _ _ _ _ _ _ us hl => match us, hl with | [_, _, _], _ => rfl) fun fd F => fn_m (G := T.G) F sc_l_told rfl T.jv fun cdv A outer s H E hr =>
    have tk : Takes (cxOf (L2.CX P w) P w K mg base n_l_told "_law_told" (defScope s_l_told) (gaS K "_law_told") cdv A outer s H E) (fun cls d _ H' => E cls d H') := takes_of rfl rfl rfl rfl
    (dss_cons (ds_setLc (i := 3) (own := [("_law_matrix", 4)]) T.stb (by rfl) sc_l_told.nd rfl rfl (sw_true rfl rfl rfl (by decide +kernel)) (by exact (di_seq rfl (de_v (pv 1)))) (blkOk_by (own := [("_law_matrix", 4)]) (N := n_l_told) (sc := defScope s_l_told) (by decide +kernel)) (fun _ => by exact (dg_name T.stb (mem_ix 0) (pg_name (i := 4) sc_l_told.nd rfl (Or.inl rfl)))) (fun _ => by exact dts_nil) (fun _ => by exact (de_ct (T := "tuple") (cr_tuple rfl) sim_tuple (by rfl) (T.bl 7) (by decide +kernel) (da_cons (de_lc (own := [("_law_line", 5)]) T.stb (by rfl) sc_l_told.nd (by exact (di_seq rfl (de_v (pv 4)))) (blkOk_by (own := [("_law_line", 5)]) (N := n_l_told) (sc := { kind := .function, names := [(".0", .local), ("_law_matrix", .local), ("tuple", .globalImplicit)], isGenerator := false, isCoroutine := false, more := [] }) (by decide +kernel)) (fun _ => by exact (dg_name T.stb (mem_ix 0) (pg_name (i := 5) sc_l_told.nd rfl (Or.inl rfl)))) (fun _ => by exact dts_nil) (fun _ => by exact (de_ct (T := "tuple") (cr_tuple rfl) sim_tuple (by rfl) (T.bl 7) (by decide +kernel) (da_cons (de_lc (own := [("_law_one", 6)]) T.stb (by rfl) sc_l_told.nd (by exact (di_seq rfl (de_v (pv 5)))) (blkOk_by (own := [("_law_one", 6)]) (N := n_l_told) (sc := { kind := .function, names := [(".0", .local), ("_law_line", .local), ("tuple", .globalImplicit)], isGenerator := false, isCoroutine := false, more := [] }) (by decide +kernel)) (fun _ => by exact (dg_name T.stb (mem_ix 0) (pg_name (i := 6) sc_l_told.nd rfl (Or.inl rfl)))) (fun _ => by exact dts_nil) (fun _ => by exact (ck_pcall (ok_l_shown T) dfl_nil (hr.mono (by decide)) (by rfl) (T.gl 18) takes0 (da_cons (de_v (pv 6)) da_nil)))) da_nil)))) da_nil))))
      (dss_one (ds_ret (de_tup (da_cons (de_ct (T := "tuple") (cr_tuple rfl) sim_tuple (by rfl) (T.bl 7) (by decide +kernel) (da_cons (de_lc (own := [("_law_one", 6)]) T.stb (by rfl) sc_l_told.nd (by exact (di_seq rfl (de_v (pv 0)))) (blkOk_by (own := [("_law_one", 6)]) (N := n_l_told) (sc := defScope s_l_told) (by decide +kernel)) (fun _ => by exact (dg_name T.stb (mem_ix 0) (pg_name (i := 6) sc_l_told.nd rfl (Or.inl rfl)))) (fun _ => by exact dts_nil) (fun _ => by exact (ck_pcall (ok_l_shown T) dfl_nil (hr.mono (by decide)) (by rfl) (T.gl 18) takes0 (da_cons (de_v (pv 6)) da_nil)))) da_nil)) (da_cons (de_ct (T := "tuple") (cr_tuple rfl) sim_tuple (by rfl) (T.bl 7) (by decide +kernel) (da_cons (de_v (pv 3)) da_nil)) (da_cons (de_ct (T := "tuple") (cr_tuple rfl) sim_tuple (by rfl) (T.bl 7) (by decide +kernel) (da_cons (de_lc (own := [("_law_one", 6)]) T.stb (by rfl) sc_l_told.nd (by exact (di_seq rfl (de_v (pv 2)))) (blkOk_by (own := [("_law_one", 6)]) (N := n_l_told) (sc := defScope s_l_told) (by decide +kernel)) (fun _ => by exact (dg_name T.stb (mem_ix 0) (pg_name (i := 6) sc_l_told.nd rfl (Or.inl rfl)))) (fun _ => by exact dts_nil) (fun _ => by exact (ck_pcall (ok_l_shown T) dfl_nil (hr.mono (by decide)) (by rfl) (T.gl 18) takes0 (da_cons (de_v (pv 6)) da_nil)))) da_nil)) da_nil)))))))
noncomputable abbrev b_l_same : MS := (mRet (mAnd (mCB oIsi (mCons (mVar 0) (mCons (mC (.cls "Ratio")) mNil))) (mAnd (mBin oEq (mBin oMul (mProp "Ratio" (pureF m_Ratio_top) (mVar 0)) (mBin oIx (mVar 1) (mC (.int 1)))) (mBin oMul (mBin oIx (mVar 1) (mC (.int 0))) (mProp "Ratio" (pureF m_Ratio_bottom) (mVar 0)))) (mBin oGt (mProp "Ratio" (pureF m_Ratio_bottom) (mVar 0)) (mC (.int 0))))))
noncomputable def m_l_same : MF := mFun 2 2 b_l_same
theorem ok_l_same (T : Tx tab exK fns K mg) : OkB P w K mg base 3 (gaS K "_law_same") ["_law_value", "_law_due"] [] (spM T.G m_l_same) :=
  okb_mk (T.c.def_ 26) (fun _ _ _ _ _ _ us hl => match us, hl with | [_, _], _ => rfl) fun fd F => fn_m (G := T.G) F sc_l_same rfl T.jv fun cdv A outer s H E hr =>
    have tk : Takes (cxOf (L2.CX P w) P w K mg base n_l_same "_law_same" (defScope s_l_same) (gaS K "_law_same") cdv A outer s H E) (fun cls d _ H' => E cls d H') := takes_of rfl rfl rfl rfl
    (dss_one (ds_ret (de_and (de_cb (id := "isinstance") (cr_isi rfl) sim_isi (by rfl) (T.bl 1) (by decide +kernel) (da_cons (de_v (pv 0)) (da_cons (de_c (pe_glob (v := .ref (gaS K "Ratio")) (by rfl) (T.gl 3) rfl) (fun _ => .cls "Ratio" (mem_ix 0))) da_nil))) (de_and (de_cmp (op_eq' rfl hr.units) sim_eq (de_op op_muls sim_mul (ck_prop (c := "Ratio") (pureF m_Ratio_top) rfl (mem_ix 0) (de_v (pv 0)) (T.tab.pr ("Ratio", "top") (mem_ix 1)) (ok_Ratio_top T) (hr.mono (by decide)) (.inr rfl) rfl) (de_ix rfl (de_v (pv 1)) de_int (fun _ _ => rfl))) (de_op op_muls sim_mul (de_ix rfl (de_v (pv 1)) de_int (fun _ _ => rfl)) (ck_prop (c := "Ratio") (pureF m_Ratio_bottom) rfl (mem_ix 0) (de_v (pv 0)) (T.tab.pr ("Ratio", "bottom") (mem_ix 0)) (ok_Ratio_bottom T) (hr.mono (by decide)) (.inr rfl) rfl)) (nomark _)) (de_one (de_cmp op_gt sim_gt (ck_prop (c := "Ratio") (pureF m_Ratio_bottom) rfl (mem_ix 0) (de_v (pv 0)) (T.tab.pr ("Ratio", "bottom") (mem_ix 0)) (ok_Ratio_bottom T) (hr.mono (by decide)) (.inr rfl) rfl) de_int (nomark _)))))))
noncomputable abbrev b_l_no_machine : MS := (mId 0 (mSeq (mTry 2 "InvalidMachine"
      (mExpr (mCall (withD [] (pureF m_machine_value)) (mCons (mVarI 0) (mCons (mVar 1) mNil))))
      (fun fs => (mRet (mBin oEq (mXf fs "value") (mVarI 0)))))
      (mRet (mC (.bl false)))))
noncomputable def m_l_no_machine : MF := mFun 2 3 b_l_no_machine
theorem ok_l_no_machine (T : Tx tab exK fns K mg) : OkB P w K mg base 8 (gaS K "_law_no_machine") ["_law_value", "_law_word"] [] (spM T.G m_l_no_machine) :=
  okb_mk (T.c.def_ 27) (fun _ _ _ _ _ _ us hl => match us, hl with | [_, _], _ => rfl) fun fd F => fn_m (G := T.G) F sc_l_no_machine rfl T.jv fun cdv A outer s H E hr =>
    have tk : Takes (cxOf (L2.CX P w) P w K mg base n_l_no_machine "_law_no_machine" (defScope s_l_no_machine) (gaS K "_law_no_machine") cdv A outer s H E) (fun cls d _ H' => E cls d H') := takes_of rfl rfl rfl rfl
    (dss_id (i := 0) (dss_cons (ds_try_as (i := 2) (c0 := "InvalidMachine") T.jv rfl (mem_ix 1) rfl rfl sc_l_no_machine.nd rfl rfl ⟨(by rfl), by decide, .inl (T.gl 12)⟩ tk
      (fun W pn xe tk po => (dss_one (ds_expr (fun p => ps_expr p) (ck_pcall (ok_machine_value T) dfl_nil (hr.mono (by decide)) (by rfl) (T.gl 19) tk (da_cons (de_vI (pv 0)) (da_cons (de_v (pv 1)) da_nil))))))
      (fun fs a oe d pn hz hf => (dss_one (ds_ret (de_cmp (op_eq' rfl hr.units) sim_eq (de_xf (f := "value") (pe_xf (T.tab.xs "InvalidMachine" (mem_ix 1)).xf (T.tab.xf ("InvalidMachine", "value") (mem_ix 0)) hz hf (pv 2))) (de_vI (pv 0)) (nomark _))))))
      (dss_one (ds_ret de_bl))))
noncomputable abbrev b_l_no_word : MS := (mSeq (mTry 2 "InvalidFigures"
      (mExpr (mCall (withD [] (pureF m_machine_value)) (mCons (mVar 0) (mCons (mVar 1) mNil))))
      (fun fs => (mRet (mBin oEq (mXf fs "value") (mVar 1)))))
      (mRet (mC (.bl false))))
noncomputable def m_l_no_word : MF := mFun 2 3 b_l_no_word
theorem ok_l_no_word (T : Tx tab exK fns K mg) : OkB P w K mg base 8 (gaS K "_law_no_word") ["_law_machine", "_law_word"] [] (spM T.G m_l_no_word) :=
  okb_mk (T.c.def_ 28) (fun _ _ _ _ _ _ us hl => match us, hl with | [_, _], _ => rfl) fun fd F => fn_m (G := T.G) F sc_l_no_word rfl T.jv fun cdv A outer s H E hr =>
    have tk : Takes (cxOf (L2.CX P w) P w K mg base n_l_no_word "_law_no_word" (defScope s_l_no_word) (gaS K "_law_no_word") cdv A outer s H E) (fun cls d _ H' => E cls d H') := takes_of rfl rfl rfl rfl
    (dss_cons (ds_try_as (i := 2) (c0 := "InvalidFigures") T.jv rfl (mem_ix 2) rfl rfl sc_l_no_word.nd rfl rfl ⟨(by rfl), by decide, .inl (T.gl 14)⟩ tk
      (fun W pn xe tk po => (dss_one (ds_expr (fun p => ps_expr p) (ck_pcall (ok_machine_value T) dfl_nil (hr.mono (by decide)) (by rfl) (T.gl 19) tk (da_cons (de_v (pv 0)) (da_cons (de_v (pv 1)) da_nil))))))
      (fun fs a oe d pn hz hf => (dss_one (ds_ret (de_cmp (op_eq' rfl hr.units) sim_eq (de_xf (f := "value") (pe_xf (T.tab.xs "InvalidFigures" (mem_ix 2)).xf (T.tab.xf ("InvalidFigures", "value") (mem_ix 1)) hz hf (pv 2))) (de_v (pv 1)) (nomark _))))))
      (dss_one (ds_ret de_bl)))
noncomputable abbrev b_l_refusals : MS := (mSeq (mAsg (mVar 0) (gT 3 (gsC (gN 3) (gsC (gN 4) (gsC (gN 5) gsN)))))
      (mSeq (mAsg (mLst (mCons (mTup (mCons (mVar 3) (mCons (mVar 4) mNil))) (mCons (mLst (mCons (mVar 3) (mCons (mVar 4) (mCons (mVar 5) mNil)))) (mCons (mTup (mCons (mBin oAdd (mVar 3) (mTup (mCons (mC (.int 1)) mNil))) (mCons (mVar 4) (mCons (mVar 5) mNil)))) (mCons (mTup (mCons (mVar 3) (mCons (mVar 4) (mCons (mBin oAdd (mVar 5) (mTup (mCons (mC (.int 0)) mNil))) mNil)))) mNil))))) (gN 6))
      (mSeq (mIfS (mTst (mBin oGt (mVar 1) (mC (.int 0)))) (mSeq (mAsg (mBin oAdd (mVar 6) (mLst (mCons (mTup (mCons (mCB oList (mCons (mVar 3) mNil)) (mCons (mVar 4) (mCons (mVar 5) mNil)))) (mCons (mTup (mCons (mVar 3) (mCons (mBin oAdd (mSl (mVar 4) mNo (mPart (mUn oNeg (mC (.int 1))))) (mTup (mCons (mSl (mBin oIx (mVar 4) (mC (.int 0))) mNo (mPart (mUn oNeg (mC (.int 1))))) mNil))) (mCons (mVar 5) mNil)))) mNil)))) (gN 6))
      (mAsg (mBin oAdd (mVar 6) (mLst (mCons (mTup (mCons (mBin oAdd (mSl (mVar 3) mNo (mPart (mUn oNeg (mC (.int 1))))) (mTup (mCons (mC (.bl true)) mNil))) (mCons (mVar 4) (mCons (mVar 5) mNil)))) (mCons (mTup (mCons (mVar 3) (mCons (mVar 4) (mCons (mBin oAdd (mSl (mVar 5) mNo (mPart (mUn oNeg (mC (.int 1))))) (mTup (mCons (mC .non) mNil))) mNil)))) mNil)))) (gN 6))) mSkip)
      (mSeq (mIfS (mNotT (mTru (mCB oAll (mCons (mLc [8] (mItS (mBin oAdd (mVar 6) (mLst (mCons (mC .non) (mCons (mC (.int 4)) mNil))))) (gN 8) mYes (mCall (withD [] (pureF m_l_no_machine)) (mCons (mVar 8) (mCons (mTup (mCons (mVar 2) mNil)) mNil)))) mNil)))) (mRet (mC (.bl false))) mSkip)
      (mRet (mCB oAll (mCons (mLc [7] (mItS (mLst (mCons (mTup (mCons (mVar 2) mNil)) (mCons (mTup (mCons (mC (.int 0)) (mCons (mUn oNeg (mC (.int 1))) mNil))) (mCons (mLst (mCons (mC (.int 0)) mNil)) (mCons (mC .non) (mCons (mTup (mCons (mC (.bl true)) mNil)) (mCons (mC (.int 0)) mNil)))))))) (gN 7) mYes (mCall (withD [] (pureF m_l_no_word)) (mCons (mVar 0) (mCons (mVar 7) mNil)))) mNil)))))))
noncomputable def m_l_refusals : MF := mFun 3 9 b_l_refusals
theorem ok_l_refusals (T : Tx tab exK fns K mg) : OkB P w K mg base 9 (gaS K "_law_refusals") ["_law_told_here", "_law_many", "_law_size"] [] (spM T.G m_l_refusals) :=
  okb_mk (T.c.def_ 29) (fun _ _ _ _ _ _ us hl => match us, hl with | [_, _, _], _ => rfl) fun fd F => fn_m (G := T.G) F sc_l_refusals rfl T.jv fun cdv A outer s H E hr =>
    have tk : Takes (cxOf (L2.CX P w) P w K mg base n_l_refusals "_law_refusals" (defScope s_l_refusals) (gaS K "_law_refusals") cdv A outer s H E) (fun cls d _ H' => E cls d H') := takes_of rfl rfl rfl rfl
    (dss_cons (ds_asg (vs := [3, 4, 5]) (de_v (pv 0)) (dg_tup (n := 3) rfl (by rfl) (dgs_cons (dg_name T.stb (mem_ix 0) (pg_name (i := 3) sc_l_refusals.nd rfl (Or.inl rfl))) (dgs_cons (dg_name T.stb (mem_ix 1) (pg_name (i := 4) sc_l_refusals.nd rfl (Or.inl rfl))) (dgs_cons (dg_name T.stb (mem_ix 2) (pg_name (i := 5) sc_l_refusals.nd rfl (Or.inl rfl))) dgs_nil)))) (fun p x => ps_asg p x))
      (dss_cons (ds_set (i := 6) T.stb (fun p => ps_set (i := 6) sc_l_refusals.nd rfl (Or.inl rfl) p) (de_lst (da_cons (de_tup (da_cons (de_v (pv 3)) (da_cons (de_v (pv 4)) da_nil))) (da_cons (de_lst (da_cons (de_v (pv 3)) (da_cons (de_v (pv 4)) (da_cons (de_v (pv 5)) da_nil)))) (da_cons (de_tup (da_cons (de_op (op_adds rfl) sim_add (de_v (pv 3)) (de_tup (da_cons de_int da_nil))) (da_cons (de_v (pv 4)) (da_cons (de_v (pv 5)) da_nil)))) (da_cons (de_tup (da_cons (de_v (pv 3)) (da_cons (de_v (pv 4)) (da_cons (de_op (op_adds rfl) sim_add (de_v (pv 5)) (de_tup (da_cons de_int da_nil))) da_nil)))) da_nil))))))
      (dss_cons (ds_if (dt_cmp op_gt sim_gt (de_v (pv 1)) de_int (nomark _)) (dss_cons (ds_set (i := 6) T.stb (fun p => ps_set (i := 6) sc_l_refusals.nd rfl (Or.inl rfl) p) (de_op (op_adds rfl) sim_add (de_v (pv 6)) (de_lst (da_cons (de_tup (da_cons (de_ct (T := "list") (cr_list rfl) sim_list (by rfl) (T.bl 10) (by decide +kernel) (da_cons (de_v (pv 3)) da_nil)) (da_cons (de_v (pv 4)) (da_cons (de_v (pv 5)) da_nil)))) (da_cons (de_tup (da_cons (de_v (pv 3)) (da_cons (de_op (op_adds rfl) sim_add (de_sl rfl (de_v (pv 4)) do_none (do_some (de_neg de_int))) (de_tup (da_cons (de_sl rfl (de_ix rfl (de_v (pv 4)) de_int (fun _ _ => rfl)) do_none (do_some (de_neg de_int))) da_nil))) (da_cons (de_v (pv 5)) da_nil)))) da_nil)))))
      (dss_one (ds_set (i := 6) T.stb (fun p => ps_set (i := 6) sc_l_refusals.nd rfl (Or.inl rfl) p) (de_op (op_adds rfl) sim_add (de_v (pv 6)) (de_lst (da_cons (de_tup (da_cons (de_op (op_adds rfl) sim_add (de_sl rfl (de_v (pv 3)) do_none (do_some (de_neg de_int))) (de_tup (da_cons de_bl da_nil))) (da_cons (de_v (pv 4)) (da_cons (de_v (pv 5)) da_nil)))) (da_cons (de_tup (da_cons (de_v (pv 3)) (da_cons (de_v (pv 4)) (da_cons (de_op (op_adds rfl) sim_add (de_sl rfl (de_v (pv 5)) do_none (do_some (de_neg de_int))) (de_tup (da_cons de_non da_nil))) da_nil)))) da_nil))))))) dss_nil)
      (dss_cons (ds_if (dt_not (dt_tru rfl (de_cb (id := "all") (cr_all' rfl (by rfl)) sim_all (by rfl) (T.bl 8) (by decide +kernel) (da_cons (de_lc (own := [("_law_one", 8)]) T.stb (by rfl) sc_l_refusals.nd (by exact (di_seq rfl (de_op (op_adds rfl) sim_add (de_v (pv 6)) (de_lst (da_cons de_non (da_cons de_int da_nil)))))) (blkOk_by (own := [("_law_one", 8)]) (N := n_l_refusals) (sc := defScope s_l_refusals) (by decide +kernel)) (fun _ => by exact (dg_name T.stb (mem_ix 0) (pg_name (i := 8) sc_l_refusals.nd rfl (Or.inl rfl)))) (fun _ => by exact dts_nil) (fun _ => by exact (ck_pcall (ok_l_no_machine T) dfl_nil (hr.mono (by decide)) (by rfl) (T.gl 20) takes0 (da_cons (de_v (pv 8)) (da_cons (de_tup (da_cons (de_v (pv 2)) da_nil)) da_nil))))) da_nil)))) (dss_one (ds_ret de_bl)) dss_nil)
      (dss_one (ds_ret (de_cb (id := "all") (cr_all' rfl (by rfl)) sim_all (by rfl) (T.bl 8) (by decide +kernel) (da_cons (de_lc (own := [("_law_word", 7)]) T.stb (by rfl) sc_l_refusals.nd (by exact (di_seq rfl (de_lst (da_cons (de_tup (da_cons (de_v (pv 2)) da_nil)) (da_cons (de_tup (da_cons de_int (da_cons (de_neg de_int) da_nil))) (da_cons (de_lst (da_cons de_int da_nil)) (da_cons de_non (da_cons (de_tup (da_cons de_bl da_nil)) (da_cons de_int da_nil))))))))) (blkOk_by (own := [("_law_word", 7)]) (N := n_l_refusals) (sc := defScope s_l_refusals) (by decide +kernel)) (fun _ => by exact (dg_name T.stb (mem_ix 0) (pg_name (i := 7) sc_l_refusals.nd rfl (Or.inl rfl)))) (fun _ => by exact dts_nil) (fun _ => by exact (ck_pcall (ok_l_no_word T) dfl_nil (hr.mono (by decide)) (by rfl) (T.gl 21) takes0 (da_cons (de_v (pv 0)) (da_cons (de_v (pv 7)) da_nil))))) da_nil))))))))
noncomputable abbrev b_law : MS := (mSeq (mFor (mItR1 (mCons (mCB oMax (mCons (mC (.int 1)) (mCons (mCB oMin (mCons (mCB oLen (mCons (mVar 0) mNil)) (mCons (mC (.int 8)) mNil))) mNil))) mNil)) (gN 1)
      (mSeq (mAsg (mCall (withD [] m_l_pool) (mCons (mVar 0) (mCons (mVar 1) mNil))) (gN 2))
      (mSeq (mAsg (mTup (mCons (mCall (withD [] m_l_draw) (mCons (mVar 2) (mCons (mC (.int 4)) mNil))) (mCons (mBin oAdd (mC (.int 2)) (mCall (withD [] m_l_draw) (mCons (mVar 2) (mCons (mC (.int 2)) mNil)))) mNil))) (gT 2 (gsC (gN 3) (gsC (gN 4) gsN))))
      (mSeq (mPar [5, 6] (mCons (mLc [15] (mItR1 (mCons (mVar 3) mNil)) (gN 15) mYes (mCall (withD [] m_l_entry) (mCons (mVar 2) mNil))) (mCons (mLc [15] (mItR1 (mCons (mVar 3) mNil)) (gN 15) mYes (mCall (withD [] m_l_entry) (mCons (mVar 2) mNil))) mNil)))
      (mSeq (mAsg (mLc [7] (mItR1 (mCons (mVar 4) mNil)) (gN 7) mYes (mLc [8] (mItR1 (mCons (mVar 3) mNil)) (gN 8) mYes (mLc [15] (mItR1 (mCons (mVar 3) mNil)) (gN 15) mYes (mCall (withD [] m_l_entry) (mCons (mVar 2) mNil))))) (gN 9))
      (mSeq (mAsg (mLc [14] (mItR1 (mCons (mC (.int 2)) mNil)) (gN 14) mYes (mCB oTuple (mCons (mLc [16] (mItR1 (mCons (mCall (withD [] m_l_draw) (mCons (mVar 2) (mCons (mC (.int 6)) mNil))) mNil)) (gN 16) mYes (mCall (withD [] m_l_draw) (mCons (mVar 2) (mCons (mVar 4) mNil)))) mNil))) (gN 10))
      (mSeq (mPar [11, 8] (mCons (mCall (withD [] (pureF m_l_told)) (mCons (mVar 5) (mCons (mVar 9) (mCons (mVar 6) mNil)))) (mCons (mVar 5) mNil)))
      (mSeq (mFor (mItS (mBin oIx (mVar 10) (mC (.int 0)))) (gN 7)
      (mAsg (mCall (withD [] (pureF m_l_row)) (mCons (mVar 8) (mCons (mBin oIx (mVar 9) (mVar 7)) mNil))) (gN 8)))
      (mSeq (mIfS (mNotT (mTru (mCall (withD [] (pureF m_l_same)) (mCons (mCall (withD [] (pureF m_machine_value)) (mCons (mVar 11) (mCons (mBin oIx (mVar 10) (mC (.int 0))) mNil))) (mCons (mCall (withD [] (pureF m_l_sum)) (mCons (mVar 8) (mCons (mVar 6) mNil))) mNil))))) (mRet (mC (.bl false))) mSkip)
      (mSeq (mAsg (mTup (mCons (mCB oTuple (mCons (mLc [17] (mItS (mVar 8)) (gN 17) mYes (mCall (makeP "Ratio" (withD [] m_Ratio___init__)) (mCons (mBin oIx (mVar 17) (mC (.int 0))) (mCons (mBin oIx (mVar 17) (mC (.int 1))) mNil)))) mNil)) (mCons (mBin oIx (mVar 11) (mC (.int 1))) (mCons (mBin oIx (mVar 11) (mC (.int 2))) mNil)))) (gN 12))
      (mSeq (mFor (mItS (mBin oIx (mVar 10) (mC (.int 1)))) (gN 7)
      (mAsg (mCall (withD [] (pureF m_l_row)) (mCons (mVar 8) (mCons (mBin oIx (mVar 9) (mVar 7)) mNil))) (gN 8)))
      (mSeq (mFor (mItS (mLst (mCons (mCall (withD [] (pureF m_machine_value)) (mCons (mVar 11) (mCons (mBin oAdd (mBin oIx (mVar 10) (mC (.int 0))) (mBin oIx (mVar 10) (mC (.int 1)))) mNil))) (mCons (mCall (withD [] (pureF m_machine_value)) (mCons (mVar 12) (mCons (mBin oIx (mVar 10) (mC (.int 1))) mNil))) mNil)))) (gN 13)
      (mIfS (mNotT (mTru (mCall (withD [] (pureF m_l_same)) (mCons (mVar 13) (mCons (mCall (withD [] (pureF m_l_sum)) (mCons (mVar 8) (mCons (mVar 6) mNil))) mNil))))) (mRet (mC (.bl false))) mSkip))
      (mIfS (mNotT (mTru (mCall (withD [] (pureF m_l_refusals)) (mCons (mVar 11) (mCons (mVar 3) (mCons (mVar 4) mNil)))))) (mRet (mC (.bl false))) mSkip)))))))))))))
      (mRet (mC (.bl true))))
noncomputable def m_law : MF := mFun 1 18 b_law
theorem fn_law (T : Tx tab exK fns K mg) : ∀ fd, FunD K "law" "law" (defArgs s_law) (defBody s_law) (defScope s_law) [] [] (gaS K "law") fd → FnOk P w K mg base (L2.CX P w) 10 (gaS K "law") fd ["_law_script"] (spM T.G m_law) :=
  fun fd F => fn_m (G := T.G) F sc_law rfl T.jv fun cdv A outer s H E hr =>
    have tk : Takes (cxOf (L2.CX P w) P w K mg base n_law "law" (defScope s_law) (gaS K "law") cdv A outer s H E) (fun cls d _ H' => E cls d H') := takes_of rfl rfl rfl rfl
    (dss_cons (ds_for (vs := [1]) (passes_of rfl) (by rfl) (di_range1 (fun p => pi_range1 (by rfl) (T.bl 9) p) (da_cons (de_cb (id := "max") (call_max2 (by rfl)) sim_I2 (by rfl) (T.bl 12) (by decide +kernel) (da_cons de_int (da_cons (de_cb (id := "min") (call_min2 (by rfl)) sim_I2 (by rfl) (T.bl 11) (by decide +kernel) (da_cons (de_cb (id := "len") (cr_len rfl) sim_len (by rfl) (T.bl 6) (by decide +kernel) (da_cons (de_v (pv 0)) da_nil)) (da_cons de_int da_nil))) da_nil))) da_nil)) (dg_name T.stb (mem_ix 0) (pg_name (i := 1) sc_law.nd rfl (Or.inl rfl)))
      (dss_cons (ds_set (i := 2) T.stb (fun p => ps_set (i := 2) sc_law.nd rfl (Or.inr rfl) p) (ck_call (ok_l_pool T) dfl_nil (hr.mono (by decide)) (by rfl) (T.gl 22) tk (da_cons (de_v (pv 0)) (da_cons (de_v (pv 1)) da_nil))))
      (dss_cons (ds_asg (vs := [3, 4]) (de_tup (da_cons (ck_call (ok_l_draw T) dfl_nil (hr.mono (by decide)) (by rfl) (T.gl 16) tk (da_cons (de_v (pv 2)) (da_cons de_int da_nil))) (da_cons (de_op (op_adds rfl) sim_add de_int (ck_call (ok_l_draw T) dfl_nil (hr.mono (by decide)) (by rfl) (T.gl 16) tk (da_cons (de_v (pv 2)) (da_cons de_int da_nil)))) da_nil))) (dg_tup (n := 2) rfl (by rfl) (dgs_cons (dg_name T.stb (mem_ix 0) (pg_name (i := 3) sc_law.nd rfl (Or.inr rfl))) (dgs_cons (dg_name T.stb (mem_ix 1) (pg_name (i := 4) sc_law.nd rfl (Or.inr rfl))) dgs_nil))) (fun p x => ps_asg p x))
      (dss_cons (ds_par T.stb (fun p => ps_par (i := 5) (j := 6) (by rfl) sc_law.nd rfl rfl (by decide) rfl rfl p (by rfl)) (da_cons (de_lc (own := [("_law_at", 15)]) T.stb (by rfl) sc_law.nd (by exact (di_range1 (fun p => pi_range1 (by rfl) (T.bl 9) p) (da_cons (de_v (pv 3)) da_nil))) (blkOk_by (own := [("_law_at", 15)]) (N := n_law) (sc := defScope s_law) (by decide +kernel)) (fun _ => by exact (dg_name T.stb (mem_ix 0) (pg_name (i := 15) sc_law.nd rfl (Or.inl rfl)))) (fun _ => by exact dts_nil) (fun _ => by exact (ck_call (ok_l_entry T) dfl_nil (hr.mono (by decide)) (by rfl) (T.gl 23) takes0 (da_cons (de_v (pv 2)) da_nil)))) (da_cons (de_lc (own := [("_law_at", 15)]) T.stb (by rfl) sc_law.nd (by exact (di_range1 (fun p => pi_range1 (by rfl) (T.bl 9) p) (da_cons (de_v (pv 3)) da_nil))) (blkOk_by (own := [("_law_at", 15)]) (N := n_law) (sc := defScope s_law) (by decide +kernel)) (fun _ => by exact (dg_name T.stb (mem_ix 0) (pg_name (i := 15) sc_law.nd rfl (Or.inl rfl)))) (fun _ => by exact dts_nil) (fun _ => by exact (ck_call (ok_l_entry T) dfl_nil (hr.mono (by decide)) (by rfl) (T.gl 23) takes0 (da_cons (de_v (pv 2)) da_nil)))) da_nil)))
      (dss_cons (ds_setLc (i := 9) (own := [("_law_figure", 7)]) T.stb (by rfl) sc_law.nd rfl rfl (sw_true rfl rfl rfl (by decide +kernel)) (by exact (di_range1 (fun p => pi_range1 (by rfl) (T.bl 9) p) (da_cons (de_v (pv 4)) da_nil))) (blkOk_by (own := [("_law_figure", 7)]) (N := n_law) (sc := defScope s_law) (by decide +kernel)) (fun _ => by exact (dg_name T.stb (mem_ix 0) (pg_name (i := 7) sc_law.nd rfl (Or.inl rfl)))) (fun _ => by exact dts_nil) (fun _ => by exact (de_lc (own := [("_law_row_here", 8)]) T.stb (by rfl) sc_law.nd (by exact (di_range1 (fun p => pi_range1 (by rfl) (T.bl 9) p) (da_cons (de_v (pv 3)) da_nil))) (blkOk_by (own := [("_law_row_here", 8)]) (N := n_law) (sc := { kind := .function, names := [(".0", .local), ("_law_figure", .local), ("range", .globalImplicit), ("_law_many", .cell), ("_law_pool_here", .cell)], isGenerator := false, isCoroutine := false, more := [] }) (by decide +kernel)) (fun _ => by exact (dg_name T.stb (mem_ix 0) (pg_name (i := 8) sc_law.nd rfl (Or.inl rfl)))) (fun _ => by exact dts_nil) (fun _ => by exact (de_lc (own := [("_law_at", 15)]) T.stb (by rfl) sc_law.nd (by exact (di_range1 (fun p => pi_range1 (by rfl) (T.bl 9) p) (da_cons (de_v (pv 3)) da_nil))) (blkOk_by (own := [("_law_at", 15)]) (N := n_law) (sc := { kind := .function, names := [(".0", .local), ("_law_row_here", .local), ("range", .globalImplicit), ("_law_many", .cell), ("_law_pool_here", .cell)], isGenerator := false, isCoroutine := false, more := [] }) (by decide +kernel)) (fun _ => by exact (dg_name T.stb (mem_ix 0) (pg_name (i := 15) sc_law.nd rfl (Or.inl rfl)))) (fun _ => by exact dts_nil) (fun _ => by exact (ck_call (ok_l_entry T) dfl_nil (hr.mono (by decide)) (by rfl) (T.gl 23) takes0 (da_cons (de_v (pv 2)) da_nil))))))))
      (dss_cons (ds_setLc (i := 10) (own := [("_law_both", 14)]) T.stb (by rfl) sc_law.nd rfl rfl (sw_true rfl rfl rfl (by decide +kernel)) (by exact (di_range1 (fun p => pi_range1 (by rfl) (T.bl 9) p) (da_cons de_int da_nil))) (blkOk_by (own := [("_law_both", 14)]) (N := n_law) (sc := defScope s_law) (by decide +kernel)) (fun _ => by exact (dg_name T.stb (mem_ix 0) (pg_name (i := 14) sc_law.nd rfl (Or.inl rfl)))) (fun _ => by exact dts_nil) (fun _ => by exact (de_ct (T := "tuple") (cr_tuple rfl) sim_tuple (by rfl) (T.bl 7) (by decide +kernel) (da_cons (de_lc (own := [("_law_turn", 16)]) T.stb (by rfl) sc_law.nd (by exact (di_range1 (fun p => pi_range1 (by rfl) (T.bl 9) p) (da_cons (ck_call (ok_l_draw T) dfl_nil (hr.mono (by decide)) (by rfl) (T.gl 16) takes0 (da_cons (de_v (pv 2)) (da_cons de_int da_nil))) da_nil))) (blkOk_by (own := [("_law_turn", 16)]) (N := n_law) (sc := { kind := .function, names := [(".0", .local), ("_law_both", .local), ("tuple", .globalImplicit), ("range", .globalImplicit), ("_law_draw", .globalImplicit), ("_law_pool_here", .cell), ("_law_size", .cell)], isGenerator := false, isCoroutine := false, more := [] }) (by decide +kernel)) (fun _ => by exact (dg_name T.stb (mem_ix 0) (pg_name (i := 16) sc_law.nd rfl (Or.inl rfl)))) (fun _ => by exact dts_nil) (fun _ => by exact (ck_call (ok_l_draw T) dfl_nil (hr.mono (by decide)) (by rfl) (T.gl 16) takes0 (da_cons (de_v (pv 2)) (da_cons (de_v (pv 4)) da_nil))))) da_nil))))
      (dss_cons (ds_par T.stb (fun p => ps_par (i := 11) (j := 8) (by rfl) sc_law.nd rfl rfl (by decide) rfl rfl p (by rfl)) (da_cons (ck_pcall (ok_l_told T) dfl_nil (hr.mono (by decide)) (by rfl) (T.gl 24) tk (da_cons (de_v (pv 5)) (da_cons (de_v (pv 9)) (da_cons (de_v (pv 6)) da_nil)))) (da_cons (de_v (pv 5)) da_nil)))
      (dss_cons (ds_for (vs := [7]) (passes_of rfl) (by rfl) (di_seq rfl (de_ix rfl (de_v (pv 10)) de_int (fun _ _ => rfl))) (dg_name T.stb (mem_ix 0) (pg_name (i := 7) sc_law.nd rfl (Or.inl rfl)))
      (dss_one (ds_set (i := 8) T.stb (fun p => ps_set (i := 8) sc_law.nd rfl (Or.inl rfl) p) (ck_pcall (ok_l_row T) dfl_nil (hr.mono (by decide)) (by rfl) (T.gl 25) tk (da_cons (de_v (pv 8)) (da_cons (de_ix rfl (de_v (pv 9)) (de_v (pv 7)) (fun _ _ => rfl)) da_nil))))))
      (dss_cons (ds_if (dt_not (dt_tru rfl (ck_pcall (ok_l_same T) dfl_nil (hr.mono (by decide)) (by rfl) (T.gl 26) tk (da_cons (ck_pcall (ok_machine_value T) dfl_nil (hr.mono (by decide)) (by rfl) (T.gl 19) tk (da_cons (de_v (pv 11)) (da_cons (de_ix rfl (de_v (pv 10)) de_int (fun _ _ => rfl)) da_nil))) (da_cons (ck_pcall (ok_l_sum T) dfl_nil (hr.mono (by decide)) (by rfl) (T.gl 17) tk (da_cons (de_v (pv 8)) (da_cons (de_v (pv 6)) da_nil))) da_nil))))) (dss_one (ds_ret de_bl)) dss_nil)
      (dss_cons (ds_set (i := 12) T.stb (fun p => ps_set (i := 12) sc_law.nd rfl (Or.inl rfl) p) (de_tup (da_cons (de_ct (T := "tuple") (cr_tuple rfl) sim_tuple (by rfl) (T.bl 7) (by decide +kernel) (da_cons (de_lc (own := [("_law_one", 17)]) T.stb (by rfl) sc_law.nd (by exact (di_seq rfl (de_v (pv 8)))) (blkOk_by (own := [("_law_one", 17)]) (N := n_law) (sc := defScope s_law) (by decide +kernel)) (fun _ => by exact (dg_name T.stb (mem_ix 0) (pg_name (i := 17) sc_law.nd rfl (Or.inl rfl)))) (fun _ => by exact dts_nil) (fun _ => by exact (ck_makeP (c := "Ratio") rfl (mem_ix 0) (T.tab.ms "Ratio" (mem_ix 1)) (ok_Ratio___init__ T) (hr.mono (by decide)) (by rfl) (T.gl 3) dfl_nil takes0 (da_cons (de_ix rfl (de_v (pv 17)) de_int (fun _ _ => rfl)) (da_cons (de_ix rfl (de_v (pv 17)) de_int (fun _ _ => rfl)) da_nil))))) da_nil)) (da_cons (de_ix rfl (de_v (pv 11)) de_int (fun _ _ => rfl)) (da_cons (de_ix rfl (de_v (pv 11)) de_int (fun _ _ => rfl)) da_nil)))))
      (dss_cons (ds_for (vs := [7]) (passes_of rfl) (by rfl) (di_seq rfl (de_ix rfl (de_v (pv 10)) de_int (fun _ _ => rfl))) (dg_name T.stb (mem_ix 0) (pg_name (i := 7) sc_law.nd rfl (Or.inl rfl)))
      (dss_one (ds_set (i := 8) T.stb (fun p => ps_set (i := 8) sc_law.nd rfl (Or.inl rfl) p) (ck_pcall (ok_l_row T) dfl_nil (hr.mono (by decide)) (by rfl) (T.gl 25) tk (da_cons (de_v (pv 8)) (da_cons (de_ix rfl (de_v (pv 9)) (de_v (pv 7)) (fun _ _ => rfl)) da_nil))))))
      (dss_cons (ds_for (vs := [13]) (passes_of rfl) (by rfl) (di_seq rfl (de_lst (da_cons (ck_pcall (ok_machine_value T) dfl_nil (hr.mono (by decide)) (by rfl) (T.gl 19) tk (da_cons (de_v (pv 11)) (da_cons (de_op (op_adds rfl) sim_add (de_ix rfl (de_v (pv 10)) de_int (fun _ _ => rfl)) (de_ix rfl (de_v (pv 10)) de_int (fun _ _ => rfl))) da_nil))) (da_cons (ck_pcall (ok_machine_value T) dfl_nil (hr.mono (by decide)) (by rfl) (T.gl 19) tk (da_cons (de_v (pv 12)) (da_cons (de_ix rfl (de_v (pv 10)) de_int (fun _ _ => rfl)) da_nil))) da_nil)))) (dg_name T.stb (mem_ix 0) (pg_name (i := 13) sc_law.nd rfl (Or.inl rfl)))
      (dss_one (ds_if (dt_not (dt_tru rfl (ck_pcall (ok_l_same T) dfl_nil (hr.mono (by decide)) (by rfl) (T.gl 26) tk (da_cons (de_v (pv 13)) (da_cons (ck_pcall (ok_l_sum T) dfl_nil (hr.mono (by decide)) (by rfl) (T.gl 17) tk (da_cons (de_v (pv 8)) (da_cons (de_v (pv 6)) da_nil))) da_nil))))) (dss_one (ds_ret de_bl)) dss_nil)))
      (dss_one (ds_if (dt_not (dt_tru rfl (ck_pcall (ok_l_refusals T) dfl_nil (hr.mono (by decide)) (by rfl) (T.gl 27) tk (da_cons (de_v (pv 11)) (da_cons (de_v (pv 3)) (da_cons (de_v (pv 4)) da_nil)))))) (dss_one (ds_ret de_bl)) dss_nil))))))))))))))
      (dss_one (ds_ret de_bl)))
end
theorem g_is_integer : m_is_integer = gIsInt := rfl
theorem g_gcd : m_greatest_divisor = gGcd := rfl
theorem g_ratio : m_Ratio___init__ = gRatio := rfl
theorem g_pool : m_l_pool = gPool := rfl
theorem g_draw : m_l_draw = gDraw := rfl
theorem all_map {α : Type} (l : List α) (p : α → Bool) (st : Sto) : oAll [.d (.lst (l.map fun y => .bl (p y)))] st = .ok (.d (.bl (l.all p))) st := by
  unfold oAll oL1
  simp only [lst?]
  rw [show (l.map fun y => D.bl (p y)) = (l.map p).map D.bl by rw [List.map_map]; rfl, bls?_map]
  simp only [Option.map_some, List.all_map]
  rfl
theorem tag_tup {x : D} {st : Sto} (h : okV x = true) : oIsi [.d x, .d (.ty "tuple")] st = .ok (.d (.bl (match x with | .tup _ => true | _ => false))) st := by
  cases x with
  | non => exact isi_ty rfl rfl
  | bl b => exact isi_ty rfl rfl
  | int b => exact isi_ty rfl rfl
  | str b => exact isi_ty rfl rfl
  | lst b => exact isi_ty rfl rfl
  | tup b => exact isi_ty rfl rfl
  | obj c fs => exact isi_ty (g := .cl c) rfl rfl
  | _ => cases h
def isTup : D → Bool
  | .tup _ => true
  | _ => false
def isRat : D → Bool
  | .obj c _ => decide (c = "Ratio")
  | _ => false
theorem tag_rat {x : D} {st : Sto} (h : okV x = true) : oIsi [.d x, .d (.cls "Ratio")] st = .ok (.d (.bl (isRat x))) st := by
  cases x with
  | non => exact isi_cls rfl rfl
  | bl b => exact isi_cls rfl rfl
  | int b => exact isi_cls rfl rfl
  | str b => exact isi_cls rfl rfl
  | lst b => exact isi_cls rfl rfl
  | tup b => exact isi_cls rfl rfl
  | obj c fs => exact isi_cls (g := .cl c) rfl rfl
  | _ => cases h
theorem tag_tup' {x : D} {st : Sto} (h : okV x = true) : oIsi [.d x, .d (.ty "tuple")] st = .ok (.d (.bl (isTup x))) st := by
  rw [tag_tup h]
  cases x <;> rfl
theorem strip_ok' {x : D} (h : okV x = true) : strip (.d x) = .d x := by cases x <;> first | rfl | cases h
def okN : Nat → D → Prop
  | 0, x => okV x = true
  | k + 1, x => okV x = true ∧ ∀ xs, x = .tup xs → xs.length ≤ 1000 ∧ ∀ y ∈ xs, okN k y
theorem okN.v {k : Nat} {x : D} (h : okN k x) : okV x = true := by
  cases k with
  | zero => exact h
  | succ k => exact h.1
def isE (x : D) : Bool := isI x || isRat x
def isRowD (n : Int) : D → Bool
  | .tup xs => decide ((xs.length : Int) = n) && xs.all isE
  | _ => false
def isMatD (n : Int) : D → Bool
  | .tup xs => decide ((xs.length : Int) = n) && xs.all (isRowD n)
  | _ => false
def isMachD : D → Bool
  | .tup [.tup f, .tup m, l] => isRowD f.length (.tup f) && isRowD f.length l && m.all (isMatD f.length)
  | _ => false
theorem len_tup (xs : List D) (st : Sto) : oLen [.d (.tup xs)] st = .ok (.d (.int xs.length)) st := rfl
theorem len_lst (xs : List D) (st : Sto) : oLen [.d (.lst xs)] st = .ok (.d (.int xs.length)) st := rfl
theorem e_entry_row {x : D} (h : okN 1 x) (n : Int) (st : Sto) : pureF m_is_entry_row [.d x, .d (.int n)] st = .ok (.d (.bl (isRowD n x))) st := by
  refine pureF_d (st1 := []) rfl ?_
  have t := tag_tup' (st := []) h.1
  unfold m_is_entry_row
  by_cases q : isTup x = true
  · cases x with
    | tup xs =>
      obtain ⟨_, h2⟩ := h
      obtain ⟨hl, hy⟩ := h2 xs rfl
      by_cases q2 : (xs.length : Int) = n
      · have lc := mLc_map (own := [2]) (mi := mItS (mVar 0)) (tg := gN 2) (te := mOr (mCall (withD [] (pureF m_is_integer)) (mCons (mVar 2) mNil)) (mCB oIsi (mCons (mVar 2) (mCons (mC (.cls "Ratio")) mNil)))) (ρ := [some (.d (.tup xs)), some (.d (.int n)), none]) (st := []) (st1 := []) xs Va.d (fun y => .bl (isE y)) (itS_tup (by simp only [mFun_eq', mSeq_eq, mIfS, mRet, mRetN, mAsg, mPar, mExpr, mSkip, mBrk, mCnt, mBad, mRaise, outE_ok, outT_ok, outE_er, seqO_nx, seqO_rt, seqO_er, retO_rt, retO_nx, retO_er, Res.bind_ok, Res.bind_er, Res.bind_bad, mVar_0, mVar_s, mVarI_0, mVarI_s, strip_ref, strip_non, strip_bl, strip_int, strip_str, strip_lst, strip_tup, strip_obj, strip_lck, strip_idn, mC, mBin, mUn, mTst, mCB, mCons, mNil, mStar, mAnd, mOr, mAndT, mOrT, mNotT, mIf, mTru, truV, mTup, mLst, ds?, ds?_map, mCall, withD, mFld, getF_o, getF_r, oNeg, oNot, oAbs, oMax, oMin, oI1, oI2, oInt, add_ii, sub_ii, lt_ii, le_ii, gt_ii, ge_ii, eq_ii, ne_ii, gN, gT_tup, gL_lst, gsC_cons, gsN_nil, List.map_cons, List.map_nil, List.length_cons, List.length_nil, List.cons_append, List.nil_append, List.append_nil, List.replicate_zero, List.replicate_succ, List.set_cons_zero, List.set_cons_succ, List.zip_cons_cons, List.zip_nil_right, List.foldl_cons, List.foldl_nil, Option.map_some, Option.map_none, Option.bind_some, Nat.reduceAdd, Nat.reduceSub, Nat.reduceEqDiff, Nat.reduceLT, Nat.reduceLeDiff, String.reduceEq, reduceCtorEq, Int.reduceLT, Int.reduceLE, Int.reduceEq, Int.reduceAdd, Int.reduceSub, Int.reduceNeg, Int.reduceMul, String.reduceBEq, decide_true, decide_false, if_true, if_false, ite_true, ite_false, Bool.false_eq_true, Bool.not_true, Bool.not_false, Bool.true_and, Bool.false_and, Bool.and_true, Bool.and_false, Bool.true_or, Bool.false_or, Bool.or_true, Bool.or_false])) (by show _ ≤ 1000000; omega) fun y hy' => by
          have oy := hy y hy'
          have p1 := pIsInt (x := y) oy []
          have p2 := tag_rat (x := y) (st := []) oy
          refine ⟨[some (.d (.tup xs)), some (.d (.int n)), some (.d y)], rfl, ?_⟩
          simp only [mFun_eq', mSeq_eq, mIfS, mRet, mRetN, mAsg, mPar, mExpr, mSkip, mBrk, mCnt, mBad, mRaise, outE_ok, outT_ok, outE_er, seqO_nx, seqO_rt, seqO_er, retO_rt, retO_nx, retO_er, Res.bind_ok, Res.bind_er, Res.bind_bad, mVar_0, mVar_s, mVarI_0, mVarI_s, strip_ref, strip_non, strip_bl, strip_int, strip_str, strip_lst, strip_tup, strip_obj, strip_lck, strip_idn, mC, mBin, mUn, mTst, mCB, mCons, mNil, mStar, mAnd, mOr, mAndT, mOrT, mNotT, mIf, mTru, truV, mTup, mLst, ds?, ds?_map, mCall, withD, mFld, getF_o, getF_r, oNeg, oNot, oAbs, oMax, oMin, oI1, oI2, oInt, add_ii, sub_ii, lt_ii, le_ii, gt_ii, ge_ii, eq_ii, ne_ii, gN, gT_tup, gL_lst, gsC_cons, gsN_nil, List.map_cons, List.map_nil, List.length_cons, List.length_nil, List.cons_append, List.nil_append, List.append_nil, List.replicate_zero, List.replicate_succ, List.set_cons_zero, List.set_cons_succ, List.zip_cons_cons, List.zip_nil_right, List.foldl_cons, List.foldl_nil, Option.map_some, Option.map_none, Option.bind_some, Nat.reduceAdd, Nat.reduceSub, Nat.reduceEqDiff, Nat.reduceLT, Nat.reduceLeDiff, String.reduceEq, reduceCtorEq, Int.reduceLT, Int.reduceLE, Int.reduceEq, Int.reduceAdd, Int.reduceSub, Int.reduceNeg, Int.reduceMul, String.reduceBEq, decide_true, decide_false, if_true, if_false, ite_true, ite_false, Bool.false_eq_true, Bool.not_true, Bool.not_false, Bool.true_and, Bool.false_and, Bool.and_true, Bool.and_false, Bool.true_or, Bool.false_or, Bool.or_true, Bool.or_false, strip_ok' oy, g_is_integer, p1, p2]
          unfold isE
          cases isI y <;> rfl
        have q3 : decide ((xs.length : Int) = n) = true := decide_eq_true q2
        simp only [mFun_eq', mSeq_eq, mIfS, mRet, mRetN, mAsg, mPar, mExpr, mSkip, mBrk, mCnt, mBad, mRaise, outE_ok, outT_ok, outE_er, seqO_nx, seqO_rt, seqO_er, retO_rt, retO_nx, retO_er, Res.bind_ok, Res.bind_er, Res.bind_bad, mVar_0, mVar_s, mVarI_0, mVarI_s, strip_ref, strip_non, strip_bl, strip_int, strip_str, strip_lst, strip_tup, strip_obj, strip_lck, strip_idn, mC, mBin, mUn, mTst, mCB, mCons, mNil, mStar, mAnd, mOr, mAndT, mOrT, mNotT, mIf, mTru, truV, mTup, mLst, ds?, ds?_map, mCall, withD, mFld, getF_o, getF_r, oNeg, oNot, oAbs, oMax, oMin, oI1, oI2, oInt, add_ii, sub_ii, lt_ii, le_ii, gt_ii, ge_ii, eq_ii, ne_ii, gN, gT_tup, gL_lst, gsC_cons, gsN_nil, List.map_cons, List.map_nil, List.length_cons, List.length_nil, List.cons_append, List.nil_append, List.append_nil, List.replicate_zero, List.replicate_succ, List.set_cons_zero, List.set_cons_succ, List.zip_cons_cons, List.zip_nil_right, List.foldl_cons, List.foldl_nil, Option.map_some, Option.map_none, Option.bind_some, Nat.reduceAdd, Nat.reduceSub, Nat.reduceEqDiff, Nat.reduceLT, Nat.reduceLeDiff, String.reduceEq, reduceCtorEq, Int.reduceLT, Int.reduceLE, Int.reduceEq, Int.reduceAdd, Int.reduceSub, Int.reduceNeg, Int.reduceMul, String.reduceBEq, decide_true, decide_false, if_true, if_false, ite_true, ite_false, Bool.false_eq_true, Bool.not_true, Bool.not_false, Bool.true_and, Bool.false_and, Bool.and_true, Bool.and_false, Bool.true_or, Bool.false_or, Bool.or_true, Bool.or_false, t, isTup, len_tup, q3, lc, all_map, isRowD]
      · have q3 : decide ((xs.length : Int) = n) = false := decide_eq_false q2
        simp only [mFun_eq', mSeq_eq, mIfS, mRet, mRetN, mAsg, mPar, mExpr, mSkip, mBrk, mCnt, mBad, mRaise, outE_ok, outT_ok, outE_er, seqO_nx, seqO_rt, seqO_er, retO_rt, retO_nx, retO_er, Res.bind_ok, Res.bind_er, Res.bind_bad, mVar_0, mVar_s, mVarI_0, mVarI_s, strip_ref, strip_non, strip_bl, strip_int, strip_str, strip_lst, strip_tup, strip_obj, strip_lck, strip_idn, mC, mBin, mUn, mTst, mCB, mCons, mNil, mStar, mAnd, mOr, mAndT, mOrT, mNotT, mIf, mTru, truV, mTup, mLst, ds?, ds?_map, mCall, withD, mFld, getF_o, getF_r, oNeg, oNot, oAbs, oMax, oMin, oI1, oI2, oInt, add_ii, sub_ii, lt_ii, le_ii, gt_ii, ge_ii, eq_ii, ne_ii, gN, gT_tup, gL_lst, gsC_cons, gsN_nil, List.map_cons, List.map_nil, List.length_cons, List.length_nil, List.cons_append, List.nil_append, List.append_nil, List.replicate_zero, List.replicate_succ, List.set_cons_zero, List.set_cons_succ, List.zip_cons_cons, List.zip_nil_right, List.foldl_cons, List.foldl_nil, Option.map_some, Option.map_none, Option.bind_some, Nat.reduceAdd, Nat.reduceSub, Nat.reduceEqDiff, Nat.reduceLT, Nat.reduceLeDiff, String.reduceEq, reduceCtorEq, Int.reduceLT, Int.reduceLE, Int.reduceEq, Int.reduceAdd, Int.reduceSub, Int.reduceNeg, Int.reduceMul, String.reduceBEq, decide_true, decide_false, if_true, if_false, ite_true, ite_false, Bool.false_eq_true, Bool.not_true, Bool.not_false, Bool.true_and, Bool.false_and, Bool.and_true, Bool.and_false, Bool.true_or, Bool.false_or, Bool.or_true, Bool.or_false, t, isTup, len_tup, q3, isRowD]
    | _ => cases q
  · have q' : isTup x = false := by simpa using q
    have e : isRowD n x = false := by cases x <;> first | rfl | (cases q')
    simp only [mFun_eq', mSeq_eq, mIfS, mRet, mRetN, mAsg, mPar, mExpr, mSkip, mBrk, mCnt, mBad, mRaise, outE_ok, outT_ok, outE_er, seqO_nx, seqO_rt, seqO_er, retO_rt, retO_nx, retO_er, Res.bind_ok, Res.bind_er, Res.bind_bad, mVar_0, mVar_s, mVarI_0, mVarI_s, strip_ref, strip_non, strip_bl, strip_int, strip_str, strip_lst, strip_tup, strip_obj, strip_lck, strip_idn, mC, mBin, mUn, mTst, mCB, mCons, mNil, mStar, mAnd, mOr, mAndT, mOrT, mNotT, mIf, mTru, truV, mTup, mLst, ds?, ds?_map, mCall, withD, mFld, getF_o, getF_r, oNeg, oNot, oAbs, oMax, oMin, oI1, oI2, oInt, add_ii, sub_ii, lt_ii, le_ii, gt_ii, ge_ii, eq_ii, ne_ii, gN, gT_tup, gL_lst, gsC_cons, gsN_nil, List.map_cons, List.map_nil, List.length_cons, List.length_nil, List.cons_append, List.nil_append, List.append_nil, List.replicate_zero, List.replicate_succ, List.set_cons_zero, List.set_cons_succ, List.zip_cons_cons, List.zip_nil_right, List.foldl_cons, List.foldl_nil, Option.map_some, Option.map_none, Option.bind_some, Nat.reduceAdd, Nat.reduceSub, Nat.reduceEqDiff, Nat.reduceLT, Nat.reduceLeDiff, String.reduceEq, reduceCtorEq, Int.reduceLT, Int.reduceLE, Int.reduceEq, Int.reduceAdd, Int.reduceSub, Int.reduceNeg, Int.reduceMul, String.reduceBEq, decide_true, decide_false, if_true, if_false, ite_true, ite_false, Bool.false_eq_true, Bool.not_true, Bool.not_false, Bool.true_and, Bool.false_and, Bool.and_true, Bool.and_false, Bool.true_or, Bool.false_or, Bool.or_true, Bool.or_false, strip_ok' h.1, t, q', e]

theorem e_matrix {x : D} (h : okN 2 x) (n : Int) (st : Sto) : pureF m_is_matrix [.d x, .d (.int n)] st = .ok (.d (.bl (isMatD n x))) st := by
  refine pureF_d (st1 := []) rfl ?_
  have t := tag_tup' (st := []) h.1
  unfold m_is_matrix
  by_cases q : isTup x = true
  · cases x with
    | tup xs =>
      obtain ⟨_, h2⟩ := h
      obtain ⟨hl, hy⟩ := h2 xs rfl
      by_cases q2 : (xs.length : Int) = n
      · have lc := mLc_map (own := [2]) (mi := mItS (mVar 0)) (tg := gN 2) (te := mCall (withD [] (pureF m_is_entry_row)) (mCons (mVar 2) (mCons (mVar 1) mNil))) (ρ := [some (.d (.tup xs)), some (.d (.int n)), none]) (st := []) (st1 := []) xs Va.d (fun y => .bl (isRowD n y)) (itS_tup (by simp only [mFun_eq', mSeq_eq, mIfS, mRet, mRetN, mAsg, mPar, mExpr, mSkip, mBrk, mCnt, mBad, mRaise, outE_ok, outT_ok, outE_er, seqO_nx, seqO_rt, seqO_er, retO_rt, retO_nx, retO_er, Res.bind_ok, Res.bind_er, Res.bind_bad, mVar_0, mVar_s, mVarI_0, mVarI_s, strip_ref, strip_non, strip_bl, strip_int, strip_str, strip_lst, strip_tup, strip_obj, strip_lck, strip_idn, mC, mBin, mUn, mTst, mCB, mCons, mNil, mStar, mAnd, mOr, mAndT, mOrT, mNotT, mIf, mTru, truV, mTup, mLst, ds?, ds?_map, mCall, withD, mFld, getF_o, getF_r, oNeg, oNot, oAbs, oMax, oMin, oI1, oI2, oInt, add_ii, sub_ii, lt_ii, le_ii, gt_ii, ge_ii, eq_ii, ne_ii, gN, gT_tup, gL_lst, gsC_cons, gsN_nil, List.map_cons, List.map_nil, List.length_cons, List.length_nil, List.cons_append, List.nil_append, List.append_nil, List.replicate_zero, List.replicate_succ, List.set_cons_zero, List.set_cons_succ, List.zip_cons_cons, List.zip_nil_right, List.foldl_cons, List.foldl_nil, Option.map_some, Option.map_none, Option.bind_some, Nat.reduceAdd, Nat.reduceSub, Nat.reduceEqDiff, Nat.reduceLT, Nat.reduceLeDiff, String.reduceEq, reduceCtorEq, Int.reduceLT, Int.reduceLE, Int.reduceEq, Int.reduceAdd, Int.reduceSub, Int.reduceNeg, Int.reduceMul, String.reduceBEq, decide_true, decide_false, if_true, if_false, ite_true, ite_false, Bool.false_eq_true, Bool.not_true, Bool.not_false, Bool.true_and, Bool.false_and, Bool.and_true, Bool.and_false, Bool.true_or, Bool.false_or, Bool.or_true, Bool.or_false])) (by show _ ≤ 1000000; omega) fun y hy' => by
          have oy := hy y hy'
          have p1 := e_entry_row (x := y) oy n []
          refine ⟨[some (.d (.tup xs)), some (.d (.int n)), some (.d y)], rfl, ?_⟩
          simp only [mFun_eq', mSeq_eq, mIfS, mRet, mRetN, mAsg, mPar, mExpr, mSkip, mBrk, mCnt, mBad, mRaise, outE_ok, outT_ok, outE_er, seqO_nx, seqO_rt, seqO_er, retO_rt, retO_nx, retO_er, Res.bind_ok, Res.bind_er, Res.bind_bad, mVar_0, mVar_s, mVarI_0, mVarI_s, strip_ref, strip_non, strip_bl, strip_int, strip_str, strip_lst, strip_tup, strip_obj, strip_lck, strip_idn, mC, mBin, mUn, mTst, mCB, mCons, mNil, mStar, mAnd, mOr, mAndT, mOrT, mNotT, mIf, mTru, truV, mTup, mLst, ds?, ds?_map, mCall, withD, mFld, getF_o, getF_r, oNeg, oNot, oAbs, oMax, oMin, oI1, oI2, oInt, add_ii, sub_ii, lt_ii, le_ii, gt_ii, ge_ii, eq_ii, ne_ii, gN, gT_tup, gL_lst, gsC_cons, gsN_nil, List.map_cons, List.map_nil, List.length_cons, List.length_nil, List.cons_append, List.nil_append, List.append_nil, List.replicate_zero, List.replicate_succ, List.set_cons_zero, List.set_cons_succ, List.zip_cons_cons, List.zip_nil_right, List.foldl_cons, List.foldl_nil, Option.map_some, Option.map_none, Option.bind_some, Nat.reduceAdd, Nat.reduceSub, Nat.reduceEqDiff, Nat.reduceLT, Nat.reduceLeDiff, String.reduceEq, reduceCtorEq, Int.reduceLT, Int.reduceLE, Int.reduceEq, Int.reduceAdd, Int.reduceSub, Int.reduceNeg, Int.reduceMul, String.reduceBEq, decide_true, decide_false, if_true, if_false, ite_true, ite_false, Bool.false_eq_true, Bool.not_true, Bool.not_false, Bool.true_and, Bool.false_and, Bool.and_true, Bool.and_false, Bool.true_or, Bool.false_or, Bool.or_true, Bool.or_false, strip_ok' oy.v, p1]
        have q3 : decide ((xs.length : Int) = n) = true := decide_eq_true q2
        simp only [mFun_eq', mSeq_eq, mIfS, mRet, mRetN, mAsg, mPar, mExpr, mSkip, mBrk, mCnt, mBad, mRaise, outE_ok, outT_ok, outE_er, seqO_nx, seqO_rt, seqO_er, retO_rt, retO_nx, retO_er, Res.bind_ok, Res.bind_er, Res.bind_bad, mVar_0, mVar_s, mVarI_0, mVarI_s, strip_ref, strip_non, strip_bl, strip_int, strip_str, strip_lst, strip_tup, strip_obj, strip_lck, strip_idn, mC, mBin, mUn, mTst, mCB, mCons, mNil, mStar, mAnd, mOr, mAndT, mOrT, mNotT, mIf, mTru, truV, mTup, mLst, ds?, ds?_map, mCall, withD, mFld, getF_o, getF_r, oNeg, oNot, oAbs, oMax, oMin, oI1, oI2, oInt, add_ii, sub_ii, lt_ii, le_ii, gt_ii, ge_ii, eq_ii, ne_ii, gN, gT_tup, gL_lst, gsC_cons, gsN_nil, List.map_cons, List.map_nil, List.length_cons, List.length_nil, List.cons_append, List.nil_append, List.append_nil, List.replicate_zero, List.replicate_succ, List.set_cons_zero, List.set_cons_succ, List.zip_cons_cons, List.zip_nil_right, List.foldl_cons, List.foldl_nil, Option.map_some, Option.map_none, Option.bind_some, Nat.reduceAdd, Nat.reduceSub, Nat.reduceEqDiff, Nat.reduceLT, Nat.reduceLeDiff, String.reduceEq, reduceCtorEq, Int.reduceLT, Int.reduceLE, Int.reduceEq, Int.reduceAdd, Int.reduceSub, Int.reduceNeg, Int.reduceMul, String.reduceBEq, decide_true, decide_false, if_true, if_false, ite_true, ite_false, Bool.false_eq_true, Bool.not_true, Bool.not_false, Bool.true_and, Bool.false_and, Bool.and_true, Bool.and_false, Bool.true_or, Bool.false_or, Bool.or_true, Bool.or_false, t, isTup, len_tup, q3, lc, all_map, isMatD]
      · have q3 : decide ((xs.length : Int) = n) = false := decide_eq_false q2
        simp only [mFun_eq', mSeq_eq, mIfS, mRet, mRetN, mAsg, mPar, mExpr, mSkip, mBrk, mCnt, mBad, mRaise, outE_ok, outT_ok, outE_er, seqO_nx, seqO_rt, seqO_er, retO_rt, retO_nx, retO_er, Res.bind_ok, Res.bind_er, Res.bind_bad, mVar_0, mVar_s, mVarI_0, mVarI_s, strip_ref, strip_non, strip_bl, strip_int, strip_str, strip_lst, strip_tup, strip_obj, strip_lck, strip_idn, mC, mBin, mUn, mTst, mCB, mCons, mNil, mStar, mAnd, mOr, mAndT, mOrT, mNotT, mIf, mTru, truV, mTup, mLst, ds?, ds?_map, mCall, withD, mFld, getF_o, getF_r, oNeg, oNot, oAbs, oMax, oMin, oI1, oI2, oInt, add_ii, sub_ii, lt_ii, le_ii, gt_ii, ge_ii, eq_ii, ne_ii, gN, gT_tup, gL_lst, gsC_cons, gsN_nil, List.map_cons, List.map_nil, List.length_cons, List.length_nil, List.cons_append, List.nil_append, List.append_nil, List.replicate_zero, List.replicate_succ, List.set_cons_zero, List.set_cons_succ, List.zip_cons_cons, List.zip_nil_right, List.foldl_cons, List.foldl_nil, Option.map_some, Option.map_none, Option.bind_some, Nat.reduceAdd, Nat.reduceSub, Nat.reduceEqDiff, Nat.reduceLT, Nat.reduceLeDiff, String.reduceEq, reduceCtorEq, Int.reduceLT, Int.reduceLE, Int.reduceEq, Int.reduceAdd, Int.reduceSub, Int.reduceNeg, Int.reduceMul, String.reduceBEq, decide_true, decide_false, if_true, if_false, ite_true, ite_false, Bool.false_eq_true, Bool.not_true, Bool.not_false, Bool.true_and, Bool.false_and, Bool.and_true, Bool.and_false, Bool.true_or, Bool.false_or, Bool.or_true, Bool.or_false, t, isTup, len_tup, q3, isMatD]
    | _ => cases q
  · have q' : isTup x = false := by simpa using q
    have e : isMatD n x = false := by cases x <;> first | rfl | (cases q')
    simp only [mFun_eq', mSeq_eq, mIfS, mRet, mRetN, mAsg, mPar, mExpr, mSkip, mBrk, mCnt, mBad, mRaise, outE_ok, outT_ok, outE_er, seqO_nx, seqO_rt, seqO_er, retO_rt, retO_nx, retO_er, Res.bind_ok, Res.bind_er, Res.bind_bad, mVar_0, mVar_s, mVarI_0, mVarI_s, strip_ref, strip_non, strip_bl, strip_int, strip_str, strip_lst, strip_tup, strip_obj, strip_lck, strip_idn, mC, mBin, mUn, mTst, mCB, mCons, mNil, mStar, mAnd, mOr, mAndT, mOrT, mNotT, mIf, mTru, truV, mTup, mLst, ds?, ds?_map, mCall, withD, mFld, getF_o, getF_r, oNeg, oNot, oAbs, oMax, oMin, oI1, oI2, oInt, add_ii, sub_ii, lt_ii, le_ii, gt_ii, ge_ii, eq_ii, ne_ii, gN, gT_tup, gL_lst, gsC_cons, gsN_nil, List.map_cons, List.map_nil, List.length_cons, List.length_nil, List.cons_append, List.nil_append, List.append_nil, List.replicate_zero, List.replicate_succ, List.set_cons_zero, List.set_cons_succ, List.zip_cons_cons, List.zip_nil_right, List.foldl_cons, List.foldl_nil, Option.map_some, Option.map_none, Option.bind_some, Nat.reduceAdd, Nat.reduceSub, Nat.reduceEqDiff, Nat.reduceLT, Nat.reduceLeDiff, String.reduceEq, reduceCtorEq, Int.reduceLT, Int.reduceLE, Int.reduceEq, Int.reduceAdd, Int.reduceSub, Int.reduceNeg, Int.reduceMul, String.reduceBEq, decide_true, decide_false, if_true, if_false, ite_true, ite_false, Bool.false_eq_true, Bool.not_true, Bool.not_false, Bool.true_and, Bool.false_and, Bool.and_true, Bool.and_false, Bool.true_or, Bool.false_or, Bool.or_true, Bool.or_false, strip_ok' h.1, t, q', e]
theorem e_machine {x : D} (h : okN 4 x) (st : Sto) : pureF m_is_machine [.d x] st = .ok (.d (.bl (isMachD x))) st := by
  refine pureF_d (st1 := []) rfl ?_
  have t := tag_tup' (st := []) h.1
  unfold m_is_machine
  by_cases q : isTup x = true
  · cases x with
    | tup xs =>
      obtain ⟨_, h2⟩ := h
      obtain ⟨hl, hy⟩ := h2 xs rfl
      by_cases q2 : xs.length = 3
      · match xs, q2 with
        | [f, m, l], _ =>
          have of := hy f (by simp)
          have om := hy m (by simp)
          have ol := hy l (by simp)
          have tf := tag_tup' (st := []) of.v
          have tm := tag_tup' (st := []) om.v
          by_cases qf : isTup f = true
          · by_cases qm : isTup m = true
            · cases f with
              | tup f => cases m with
                | tup m =>
                  have o1 : okN 1 (.tup f) := ⟨rfl, fun ys e => by cases e; exact ⟨(of.2 _ rfl).1, fun y hy => ((of.2 _ rfl).2 y hy).v⟩⟩
                  have o2 : okN 1 l := ⟨ol.v, fun ys e => ⟨(ol.2 _ e).1, fun y hy => ((ol.2 _ e).2 y hy).v⟩⟩
                  have r1 := e_entry_row o1 f.length []
                  have r2 := e_entry_row o2 f.length []
                  have lc := mLc_map (own := [5]) (mi := mItS (mVar 2)) (tg := gN 5) (te := mCall (withD [] (pureF m_is_matrix)) (mCons (mVar 5) (mCons (mVar 4) mNil))) (ρ := [some (.d (.tup [.tup f, .tup m, l])), some (.d (.tup f)), some (.d (.tup m)), some (.d l), some (.d (.int f.length)), none]) (st := []) (st1 := []) m Va.d (fun y => .bl (isMatD f.length y)) (itS_tup (by simp only [mFun_eq', mSeq_eq, mIfS, mRet, mRetN, mAsg, mPar, mExpr, mSkip, mBrk, mCnt, mBad, mRaise, outE_ok, outT_ok, outE_er, seqO_nx, seqO_rt, seqO_er, retO_rt, retO_nx, retO_er, Res.bind_ok, Res.bind_er, Res.bind_bad, mVar_0, mVar_s, mVarI_0, mVarI_s, strip_ref, strip_non, strip_bl, strip_int, strip_str, strip_lst, strip_tup, strip_obj, strip_lck, strip_idn, mC, mBin, mUn, mTst, mCB, mCons, mNil, mStar, mAnd, mOr, mAndT, mOrT, mNotT, mIf, mTru, truV, mTup, mLst, ds?, ds?_map, mCall, withD, mFld, getF_o, getF_r, oNeg, oNot, oAbs, oMax, oMin, oI1, oI2, oInt, add_ii, sub_ii, lt_ii, le_ii, gt_ii, ge_ii, eq_ii, ne_ii, gN, gT_tup, gL_lst, gsC_cons, gsN_nil, List.map_cons, List.map_nil, List.length_cons, List.length_nil, List.cons_append, List.nil_append, List.append_nil, List.replicate_zero, List.replicate_succ, List.set_cons_zero, List.set_cons_succ, List.zip_cons_cons, List.zip_nil_right, List.foldl_cons, List.foldl_nil, Option.map_some, Option.map_none, Option.bind_some, Nat.reduceAdd, Nat.reduceSub, Nat.reduceEqDiff, Nat.reduceLT, Nat.reduceLeDiff, String.reduceEq, reduceCtorEq, Int.reduceLT, Int.reduceLE, Int.reduceEq, Int.reduceAdd, Int.reduceSub, Int.reduceNeg, Int.reduceMul, String.reduceBEq, decide_true, decide_false, if_true, if_false, ite_true, ite_false, Bool.false_eq_true, Bool.not_true, Bool.not_false, Bool.true_and, Bool.false_and, Bool.and_true, Bool.and_false, Bool.true_or, Bool.false_or, Bool.or_true, Bool.or_false])) (by show _ ≤ 1000000; have := (om.2 _ rfl).1; omega) fun y hy' => by
                    have oy := (om.2 _ rfl).2 y hy'
                    have p1 := e_matrix (x := y) oy f.length []
                    refine ⟨[some (.d (.tup [.tup f, .tup m, l])), some (.d (.tup f)), some (.d (.tup m)), some (.d l), some (.d (.int f.length)), some (.d y)], rfl, ?_⟩
                    simp only [mFun_eq', mSeq_eq, mIfS, mRet, mRetN, mAsg, mPar, mExpr, mSkip, mBrk, mCnt, mBad, mRaise, outE_ok, outT_ok, outE_er, seqO_nx, seqO_rt, seqO_er, retO_rt, retO_nx, retO_er, Res.bind_ok, Res.bind_er, Res.bind_bad, mVar_0, mVar_s, mVarI_0, mVarI_s, strip_ref, strip_non, strip_bl, strip_int, strip_str, strip_lst, strip_tup, strip_obj, strip_lck, strip_idn, mC, mBin, mUn, mTst, mCB, mCons, mNil, mStar, mAnd, mOr, mAndT, mOrT, mNotT, mIf, mTru, truV, mTup, mLst, ds?, ds?_map, mCall, withD, mFld, getF_o, getF_r, oNeg, oNot, oAbs, oMax, oMin, oI1, oI2, oInt, add_ii, sub_ii, lt_ii, le_ii, gt_ii, ge_ii, eq_ii, ne_ii, gN, gT_tup, gL_lst, gsC_cons, gsN_nil, List.map_cons, List.map_nil, List.length_cons, List.length_nil, List.cons_append, List.nil_append, List.append_nil, List.replicate_zero, List.replicate_succ, List.set_cons_zero, List.set_cons_succ, List.zip_cons_cons, List.zip_nil_right, List.foldl_cons, List.foldl_nil, Option.map_some, Option.map_none, Option.bind_some, Nat.reduceAdd, Nat.reduceSub, Nat.reduceEqDiff, Nat.reduceLT, Nat.reduceLeDiff, String.reduceEq, reduceCtorEq, Int.reduceLT, Int.reduceLE, Int.reduceEq, Int.reduceAdd, Int.reduceSub, Int.reduceNeg, Int.reduceMul, String.reduceBEq, decide_true, decide_false, if_true, if_false, ite_true, ite_false, Bool.false_eq_true, Bool.not_true, Bool.not_false, Bool.true_and, Bool.false_and, Bool.and_true, Bool.and_false, Bool.true_or, Bool.false_or, Bool.or_true, Bool.or_false, strip_ok' oy.v, p1]
                  have len3 : ∀ st, oLen [.d (.tup [.tup f, .tup m, l])] st = .ok (.d (.int 3)) st := fun _ => rfl
                  have tt : ∀ xs : List D, oIsi [.d (.tup xs), .d (.ty "tuple")] [] = .ok (.d (.bl true)) [] := fun xs => tag_tup' rfl
                  cases c1 : isRowD f.length (.tup f) with
                  | false =>
                    have e : isMachD (.tup [.tup f, .tup m, l]) = false := by show (isRowD f.length (.tup f) && isRowD f.length l && m.all (isMatD f.length)) = _; rw [c1]; rfl
                    rw [c1] at r1
                    rw [e]
                    simp only [mFun_eq', mSeq_eq, mIfS, mRet, mRetN, mAsg, mPar, mExpr, mSkip, mBrk, mCnt, mBad, mRaise, outE_ok, outT_ok, outE_er, seqO_nx, seqO_rt, seqO_er, retO_rt, retO_nx, retO_er, Res.bind_ok, Res.bind_er, Res.bind_bad, mVar_0, mVar_s, mVarI_0, mVarI_s, strip_ref, strip_non, strip_bl, strip_int, strip_str, strip_lst, strip_tup, strip_obj, strip_lck, strip_idn, mC, mBin, mUn, mTst, mCB, mCons, mNil, mStar, mAnd, mOr, mAndT, mOrT, mNotT, mIf, mTru, truV, mTup, mLst, ds?, ds?_map, mCall, withD, mFld, getF_o, getF_r, oNeg, oNot, oAbs, oMax, oMin, oI1, oI2, oInt, add_ii, sub_ii, lt_ii, le_ii, gt_ii, ge_ii, eq_ii, ne_ii, gN, gT_tup, gL_lst, gsC_cons, gsN_nil, List.map_cons, List.map_nil, List.length_cons, List.length_nil, List.cons_append, List.nil_append, List.append_nil, List.replicate_zero, List.replicate_succ, List.set_cons_zero, List.set_cons_succ, List.zip_cons_cons, List.zip_nil_right, List.foldl_cons, List.foldl_nil, Option.map_some, Option.map_none, Option.bind_some, Nat.reduceAdd, Nat.reduceSub, Nat.reduceEqDiff, Nat.reduceLT, Nat.reduceLeDiff, String.reduceEq, reduceCtorEq, Int.reduceLT, Int.reduceLE, Int.reduceEq, Int.reduceAdd, Int.reduceSub, Int.reduceNeg, Int.reduceMul, String.reduceBEq, decide_true, decide_false, if_true, if_false, ite_true, ite_false, Bool.false_eq_true, Bool.not_true, Bool.not_false, Bool.true_and, Bool.false_and, Bool.and_true, Bool.and_false, Bool.true_or, Bool.false_or, Bool.or_true, Bool.or_false, tt, len3, len_tup, r1]
                  | true => cases c2 : isRowD f.length l with
                    | false =>
                      have e : isMachD (.tup [.tup f, .tup m, l]) = false := by show (isRowD f.length (.tup f) && isRowD f.length l && m.all (isMatD f.length)) = _; rw [c1, c2]; rfl
                      rw [c1] at r1
                      rw [c2] at r2
                      rw [e]
                      simp only [mFun_eq', mSeq_eq, mIfS, mRet, mRetN, mAsg, mPar, mExpr, mSkip, mBrk, mCnt, mBad, mRaise, outE_ok, outT_ok, outE_er, seqO_nx, seqO_rt, seqO_er, retO_rt, retO_nx, retO_er, Res.bind_ok, Res.bind_er, Res.bind_bad, mVar_0, mVar_s, mVarI_0, mVarI_s, strip_ref, strip_non, strip_bl, strip_int, strip_str, strip_lst, strip_tup, strip_obj, strip_lck, strip_idn, mC, mBin, mUn, mTst, mCB, mCons, mNil, mStar, mAnd, mOr, mAndT, mOrT, mNotT, mIf, mTru, truV, mTup, mLst, ds?, ds?_map, mCall, withD, mFld, getF_o, getF_r, oNeg, oNot, oAbs, oMax, oMin, oI1, oI2, oInt, add_ii, sub_ii, lt_ii, le_ii, gt_ii, ge_ii, eq_ii, ne_ii, gN, gT_tup, gL_lst, gsC_cons, gsN_nil, List.map_cons, List.map_nil, List.length_cons, List.length_nil, List.cons_append, List.nil_append, List.append_nil, List.replicate_zero, List.replicate_succ, List.set_cons_zero, List.set_cons_succ, List.zip_cons_cons, List.zip_nil_right, List.foldl_cons, List.foldl_nil, Option.map_some, Option.map_none, Option.bind_some, Nat.reduceAdd, Nat.reduceSub, Nat.reduceEqDiff, Nat.reduceLT, Nat.reduceLeDiff, String.reduceEq, reduceCtorEq, Int.reduceLT, Int.reduceLE, Int.reduceEq, Int.reduceAdd, Int.reduceSub, Int.reduceNeg, Int.reduceMul, String.reduceBEq, decide_true, decide_false, if_true, if_false, ite_true, ite_false, Bool.false_eq_true, Bool.not_true, Bool.not_false, Bool.true_and, Bool.false_and, Bool.and_true, Bool.and_false, Bool.true_or, Bool.false_or, Bool.or_true, Bool.or_false, tt, len3, len_tup, r1, r2, strip_ok' ol.v]
                    | true =>
                      have e : isMachD (.tup [.tup f, .tup m, l]) = m.all (isMatD f.length) := by show (isRowD f.length (.tup f) && isRowD f.length l && m.all (isMatD f.length)) = _; rw [c1, c2]; rfl
                      rw [c1] at r1
                      rw [c2] at r2
                      rw [e]
                      simp only [mFun_eq', mSeq_eq, mIfS, mRet, mRetN, mAsg, mPar, mExpr, mSkip, mBrk, mCnt, mBad, mRaise, outE_ok, outT_ok, outE_er, seqO_nx, seqO_rt, seqO_er, retO_rt, retO_nx, retO_er, Res.bind_ok, Res.bind_er, Res.bind_bad, mVar_0, mVar_s, mVarI_0, mVarI_s, strip_ref, strip_non, strip_bl, strip_int, strip_str, strip_lst, strip_tup, strip_obj, strip_lck, strip_idn, mC, mBin, mUn, mTst, mCB, mCons, mNil, mStar, mAnd, mOr, mAndT, mOrT, mNotT, mIf, mTru, truV, mTup, mLst, ds?, ds?_map, mCall, withD, mFld, getF_o, getF_r, oNeg, oNot, oAbs, oMax, oMin, oI1, oI2, oInt, add_ii, sub_ii, lt_ii, le_ii, gt_ii, ge_ii, eq_ii, ne_ii, gN, gT_tup, gL_lst, gsC_cons, gsN_nil, List.map_cons, List.map_nil, List.length_cons, List.length_nil, List.cons_append, List.nil_append, List.append_nil, List.replicate_zero, List.replicate_succ, List.set_cons_zero, List.set_cons_succ, List.zip_cons_cons, List.zip_nil_right, List.foldl_cons, List.foldl_nil, Option.map_some, Option.map_none, Option.bind_some, Nat.reduceAdd, Nat.reduceSub, Nat.reduceEqDiff, Nat.reduceLT, Nat.reduceLeDiff, String.reduceEq, reduceCtorEq, Int.reduceLT, Int.reduceLE, Int.reduceEq, Int.reduceAdd, Int.reduceSub, Int.reduceNeg, Int.reduceMul, String.reduceBEq, decide_true, decide_false, if_true, if_false, ite_true, ite_false, Bool.false_eq_true, Bool.not_true, Bool.not_false, Bool.true_and, Bool.false_and, Bool.and_true, Bool.and_false, Bool.true_or, Bool.false_or, Bool.or_true, Bool.or_false, tt, len3, len_tup, r1, r2, strip_ok' ol.v, lc, all_map]
                | _ => cases qm
              | _ => cases qf
            · have q' : isTup m = false := by simpa using qm
              have e : isMachD (.tup [f, m, l]) = false := by
                cases f <;> first | rfl | skip
                cases m <;> first | rfl | (cases q')
              have len3 : ∀ st, oLen [.d (.tup [f, m, l])] st = .ok (.d (.int 3)) st := fun _ => rfl
              rw [e]
              have t : oIsi [.d (.tup [f, m, l]), .d (.ty "tuple")] [] = .ok (.d (.bl true)) [] := tag_tup' rfl
              rw [qf] at tf
              rw [q'] at tm
              simp only [mFun_eq', mSeq_eq, mIfS, mRet, mRetN, mAsg, mPar, mExpr, mSkip, mBrk, mCnt, mBad, mRaise, outE_ok, outT_ok, outE_er, seqO_nx, seqO_rt, seqO_er, retO_rt, retO_nx, retO_er, Res.bind_ok, Res.bind_er, Res.bind_bad, mVar_0, mVar_s, mVarI_0, mVarI_s, strip_ref, strip_non, strip_bl, strip_int, strip_str, strip_lst, strip_tup, strip_obj, strip_lck, strip_idn, mC, mBin, mUn, mTst, mCB, mCons, mNil, mStar, mAnd, mOr, mAndT, mOrT, mNotT, mIf, mTru, truV, mTup, mLst, ds?, ds?_map, mCall, withD, mFld, getF_o, getF_r, oNeg, oNot, oAbs, oMax, oMin, oI1, oI2, oInt, add_ii, sub_ii, lt_ii, le_ii, gt_ii, ge_ii, eq_ii, ne_ii, gN, gT_tup, gL_lst, gsC_cons, gsN_nil, List.map_cons, List.map_nil, List.length_cons, List.length_nil, List.cons_append, List.nil_append, List.append_nil, List.replicate_zero, List.replicate_succ, List.set_cons_zero, List.set_cons_succ, List.zip_cons_cons, List.zip_nil_right, List.foldl_cons, List.foldl_nil, Option.map_some, Option.map_none, Option.bind_some, Nat.reduceAdd, Nat.reduceSub, Nat.reduceEqDiff, Nat.reduceLT, Nat.reduceLeDiff, String.reduceEq, reduceCtorEq, Int.reduceLT, Int.reduceLE, Int.reduceEq, Int.reduceAdd, Int.reduceSub, Int.reduceNeg, Int.reduceMul, String.reduceBEq, decide_true, decide_false, if_true, if_false, ite_true, ite_false, Bool.false_eq_true, Bool.not_true, Bool.not_false, Bool.true_and, Bool.false_and, Bool.and_true, Bool.and_false, Bool.true_or, Bool.false_or, Bool.or_true, Bool.or_false, t, len3, tf, tm, strip_ok' of.v, strip_ok' om.v]
          · have q' : isTup f = false := by simpa using qf
            have e : isMachD (.tup [f, m, l]) = false := by
              cases f <;> first | rfl | (cases q')
            have len3 : ∀ st, oLen [.d (.tup [f, m, l])] st = .ok (.d (.int 3)) st := fun _ => rfl
            rw [e]
            have t : oIsi [.d (.tup [f, m, l]), .d (.ty "tuple")] [] = .ok (.d (.bl true)) [] := tag_tup' rfl
            rw [q'] at tf
            simp only [mFun_eq', mSeq_eq, mIfS, mRet, mRetN, mAsg, mPar, mExpr, mSkip, mBrk, mCnt, mBad, mRaise, outE_ok, outT_ok, outE_er, seqO_nx, seqO_rt, seqO_er, retO_rt, retO_nx, retO_er, Res.bind_ok, Res.bind_er, Res.bind_bad, mVar_0, mVar_s, mVarI_0, mVarI_s, strip_ref, strip_non, strip_bl, strip_int, strip_str, strip_lst, strip_tup, strip_obj, strip_lck, strip_idn, mC, mBin, mUn, mTst, mCB, mCons, mNil, mStar, mAnd, mOr, mAndT, mOrT, mNotT, mIf, mTru, truV, mTup, mLst, ds?, ds?_map, mCall, withD, mFld, getF_o, getF_r, oNeg, oNot, oAbs, oMax, oMin, oI1, oI2, oInt, add_ii, sub_ii, lt_ii, le_ii, gt_ii, ge_ii, eq_ii, ne_ii, gN, gT_tup, gL_lst, gsC_cons, gsN_nil, List.map_cons, List.map_nil, List.length_cons, List.length_nil, List.cons_append, List.nil_append, List.append_nil, List.replicate_zero, List.replicate_succ, List.set_cons_zero, List.set_cons_succ, List.zip_cons_cons, List.zip_nil_right, List.foldl_cons, List.foldl_nil, Option.map_some, Option.map_none, Option.bind_some, Nat.reduceAdd, Nat.reduceSub, Nat.reduceEqDiff, Nat.reduceLT, Nat.reduceLeDiff, String.reduceEq, reduceCtorEq, Int.reduceLT, Int.reduceLE, Int.reduceEq, Int.reduceAdd, Int.reduceSub, Int.reduceNeg, Int.reduceMul, String.reduceBEq, decide_true, decide_false, if_true, if_false, ite_true, ite_false, Bool.false_eq_true, Bool.not_true, Bool.not_false, Bool.true_and, Bool.false_and, Bool.and_true, Bool.and_false, Bool.true_or, Bool.false_or, Bool.or_true, Bool.or_false, t, len3, tf, strip_ok' of.v]
      · have e : isMachD (.tup xs) = false := by
          unfold isMachD
          split
          · rename_i h; cases h; exact absurd rfl q2
          · rfl
        have q3 : decide ((xs.length : Int) = 3) = false := decide_eq_false (by omega)
        simp only [mFun_eq', mSeq_eq, mIfS, mRet, mRetN, mAsg, mPar, mExpr, mSkip, mBrk, mCnt, mBad, mRaise, outE_ok, outT_ok, outE_er, seqO_nx, seqO_rt, seqO_er, retO_rt, retO_nx, retO_er, Res.bind_ok, Res.bind_er, Res.bind_bad, mVar_0, mVar_s, mVarI_0, mVarI_s, strip_ref, strip_non, strip_bl, strip_int, strip_str, strip_lst, strip_tup, strip_obj, strip_lck, strip_idn, mC, mBin, mUn, mTst, mCB, mCons, mNil, mStar, mAnd, mOr, mAndT, mOrT, mNotT, mIf, mTru, truV, mTup, mLst, ds?, ds?_map, mCall, withD, mFld, getF_o, getF_r, oNeg, oNot, oAbs, oMax, oMin, oI1, oI2, oInt, add_ii, sub_ii, lt_ii, le_ii, gt_ii, ge_ii, eq_ii, ne_ii, gN, gT_tup, gL_lst, gsC_cons, gsN_nil, List.map_cons, List.map_nil, List.length_cons, List.length_nil, List.cons_append, List.nil_append, List.append_nil, List.replicate_zero, List.replicate_succ, List.set_cons_zero, List.set_cons_succ, List.zip_cons_cons, List.zip_nil_right, List.foldl_cons, List.foldl_nil, Option.map_some, Option.map_none, Option.bind_some, Nat.reduceAdd, Nat.reduceSub, Nat.reduceEqDiff, Nat.reduceLT, Nat.reduceLeDiff, String.reduceEq, reduceCtorEq, Int.reduceLT, Int.reduceLE, Int.reduceEq, Int.reduceAdd, Int.reduceSub, Int.reduceNeg, Int.reduceMul, String.reduceBEq, decide_true, decide_false, if_true, if_false, ite_true, ite_false, Bool.false_eq_true, Bool.not_true, Bool.not_false, Bool.true_and, Bool.false_and, Bool.and_true, Bool.and_false, Bool.true_or, Bool.false_or, Bool.or_true, Bool.or_false, t, isTup, len_tup, q3, e]
    | _ => cases q
  · have q' : isTup x = false := by simpa using q
    have e : isMachD x = false := by cases x <;> first | rfl | (cases q')
    simp only [mFun_eq', mSeq_eq, mIfS, mRet, mRetN, mAsg, mPar, mExpr, mSkip, mBrk, mCnt, mBad, mRaise, outE_ok, outT_ok, outE_er, seqO_nx, seqO_rt, seqO_er, retO_rt, retO_nx, retO_er, Res.bind_ok, Res.bind_er, Res.bind_bad, mVar_0, mVar_s, mVarI_0, mVarI_s, strip_ref, strip_non, strip_bl, strip_int, strip_str, strip_lst, strip_tup, strip_obj, strip_lck, strip_idn, mC, mBin, mUn, mTst, mCB, mCons, mNil, mStar, mAnd, mOr, mAndT, mOrT, mNotT, mIf, mTru, truV, mTup, mLst, ds?, ds?_map, mCall, withD, mFld, getF_o, getF_r, oNeg, oNot, oAbs, oMax, oMin, oI1, oI2, oInt, add_ii, sub_ii, lt_ii, le_ii, gt_ii, ge_ii, eq_ii, ne_ii, gN, gT_tup, gL_lst, gsC_cons, gsN_nil, List.map_cons, List.map_nil, List.length_cons, List.length_nil, List.cons_append, List.nil_append, List.append_nil, List.replicate_zero, List.replicate_succ, List.set_cons_zero, List.set_cons_succ, List.zip_cons_cons, List.zip_nil_right, List.foldl_cons, List.foldl_nil, Option.map_some, Option.map_none, Option.bind_some, Nat.reduceAdd, Nat.reduceSub, Nat.reduceEqDiff, Nat.reduceLT, Nat.reduceLeDiff, String.reduceEq, reduceCtorEq, Int.reduceLT, Int.reduceLE, Int.reduceEq, Int.reduceAdd, Int.reduceSub, Int.reduceNeg, Int.reduceMul, String.reduceBEq, decide_true, decide_false, if_true, if_false, ite_true, ite_false, Bool.false_eq_true, Bool.not_true, Bool.not_false, Bool.true_and, Bool.false_and, Bool.and_true, Bool.and_false, Bool.true_or, Bool.false_or, Bool.or_true, Bool.or_false, strip_ok' h.1, t, q', e]
/-! words -/
def isBt (n : Int) : D → Bool
  | .int i => decide (0 ≤ i) && decide (i ≤ n - 1)
  | _ => false
theorem e_between {x : D} (h : okV x = true) (n : Int) (st : Sto) : pureF m_is_between [.d x, .d (.int 0), .d (.int (n - 1))] st = .ok (.d (.bl (isBt n x))) st := by
  refine pureF_d (st1 := []) rfl ?_
  have p1 := pIsInt h []
  unfold m_is_between
  cases e : isI x with
  | false =>
    have e2 : isBt n x = false := by cases x <;> first | rfl | (cases e)
    rw [e] at p1
    simp only [mFun_eq', mSeq_eq, mIfS, mRet, mRetN, mAsg, mPar, mExpr, mSkip, mBrk, mCnt, mBad, mRaise, outE_ok, outT_ok, outE_er, seqO_nx, seqO_rt, seqO_er, retO_rt, retO_nx, retO_er, Res.bind_ok, Res.bind_er, Res.bind_bad, mVar_0, mVar_s, mVarI_0, mVarI_s, strip_ref, strip_non, strip_bl, strip_int, strip_str, strip_lst, strip_tup, strip_obj, strip_lck, strip_idn, mC, mBin, mUn, mTst, mCB, mCons, mNil, mStar, mAnd, mOr, mAndT, mOrT, mNotT, mIf, mTru, truV, mTup, mLst, ds?, ds?_map, mCall, withD, mFld, getF_o, getF_r, oNeg, oNot, oAbs, oMax, oMin, oI1, oI2, oInt, add_ii, sub_ii, lt_ii, le_ii, gt_ii, ge_ii, eq_ii, ne_ii, gN, gT_tup, gL_lst, gsC_cons, gsN_nil, List.map_cons, List.map_nil, List.length_cons, List.length_nil, List.cons_append, List.nil_append, List.append_nil, List.replicate_zero, List.replicate_succ, List.set_cons_zero, List.set_cons_succ, List.zip_cons_cons, List.zip_nil_right, List.foldl_cons, List.foldl_nil, Option.map_some, Option.map_none, Option.bind_some, Nat.reduceAdd, Nat.reduceSub, Nat.reduceEqDiff, Nat.reduceLT, Nat.reduceLeDiff, String.reduceEq, reduceCtorEq, Int.reduceLT, Int.reduceLE, Int.reduceEq, Int.reduceAdd, Int.reduceSub, Int.reduceNeg, Int.reduceMul, String.reduceBEq, decide_true, decide_false, if_true, if_false, ite_true, ite_false, Bool.false_eq_true, Bool.not_true, Bool.not_false, Bool.true_and, Bool.false_and, Bool.and_true, Bool.and_false, Bool.true_or, Bool.false_or, Bool.or_true, Bool.or_false, strip_ok' h, g_is_integer, p1, e2]
  | true => cases x with
    | int i =>
      rw [e] at p1
      by_cases q : 0 ≤ i
      · simp only [mFun_eq', mSeq_eq, mIfS, mRet, mRetN, mAsg, mPar, mExpr, mSkip, mBrk, mCnt, mBad, mRaise, outE_ok, outT_ok, outE_er, seqO_nx, seqO_rt, seqO_er, retO_rt, retO_nx, retO_er, Res.bind_ok, Res.bind_er, Res.bind_bad, mVar_0, mVar_s, mVarI_0, mVarI_s, strip_ref, strip_non, strip_bl, strip_int, strip_str, strip_lst, strip_tup, strip_obj, strip_lck, strip_idn, mC, mBin, mUn, mTst, mCB, mCons, mNil, mStar, mAnd, mOr, mAndT, mOrT, mNotT, mIf, mTru, truV, mTup, mLst, ds?, ds?_map, mCall, withD, mFld, getF_o, getF_r, oNeg, oNot, oAbs, oMax, oMin, oI1, oI2, oInt, add_ii, sub_ii, lt_ii, le_ii, gt_ii, ge_ii, eq_ii, ne_ii, gN, gT_tup, gL_lst, gsC_cons, gsN_nil, List.map_cons, List.map_nil, List.length_cons, List.length_nil, List.cons_append, List.nil_append, List.append_nil, List.replicate_zero, List.replicate_succ, List.set_cons_zero, List.set_cons_succ, List.zip_cons_cons, List.zip_nil_right, List.foldl_cons, List.foldl_nil, Option.map_some, Option.map_none, Option.bind_some, Nat.reduceAdd, Nat.reduceSub, Nat.reduceEqDiff, Nat.reduceLT, Nat.reduceLeDiff, String.reduceEq, reduceCtorEq, Int.reduceLT, Int.reduceLE, Int.reduceEq, Int.reduceAdd, Int.reduceSub, Int.reduceNeg, Int.reduceMul, String.reduceBEq, decide_true, decide_false, if_true, if_false, ite_true, ite_false, Bool.false_eq_true, Bool.not_true, Bool.not_false, Bool.true_and, Bool.false_and, Bool.and_true, Bool.and_false, Bool.true_or, Bool.false_or, Bool.or_true, Bool.or_false, g_is_integer, p1, isBt, mChain, q]
      · simp only [mFun_eq', mSeq_eq, mIfS, mRet, mRetN, mAsg, mPar, mExpr, mSkip, mBrk, mCnt, mBad, mRaise, outE_ok, outT_ok, outE_er, seqO_nx, seqO_rt, seqO_er, retO_rt, retO_nx, retO_er, Res.bind_ok, Res.bind_er, Res.bind_bad, mVar_0, mVar_s, mVarI_0, mVarI_s, strip_ref, strip_non, strip_bl, strip_int, strip_str, strip_lst, strip_tup, strip_obj, strip_lck, strip_idn, mC, mBin, mUn, mTst, mCB, mCons, mNil, mStar, mAnd, mOr, mAndT, mOrT, mNotT, mIf, mTru, truV, mTup, mLst, ds?, ds?_map, mCall, withD, mFld, getF_o, getF_r, oNeg, oNot, oAbs, oMax, oMin, oI1, oI2, oInt, add_ii, sub_ii, lt_ii, le_ii, gt_ii, ge_ii, eq_ii, ne_ii, gN, gT_tup, gL_lst, gsC_cons, gsN_nil, List.map_cons, List.map_nil, List.length_cons, List.length_nil, List.cons_append, List.nil_append, List.append_nil, List.replicate_zero, List.replicate_succ, List.set_cons_zero, List.set_cons_succ, List.zip_cons_cons, List.zip_nil_right, List.foldl_cons, List.foldl_nil, Option.map_some, Option.map_none, Option.bind_some, Nat.reduceAdd, Nat.reduceSub, Nat.reduceEqDiff, Nat.reduceLT, Nat.reduceLeDiff, String.reduceEq, reduceCtorEq, Int.reduceLT, Int.reduceLE, Int.reduceEq, Int.reduceAdd, Int.reduceSub, Int.reduceNeg, Int.reduceMul, String.reduceBEq, decide_true, decide_false, if_true, if_false, ite_true, ite_false, Bool.false_eq_true, Bool.not_true, Bool.not_false, Bool.true_and, Bool.false_and, Bool.and_true, Bool.and_false, Bool.true_or, Bool.false_or, Bool.or_true, Bool.or_false, g_is_integer, p1, isBt, mChain, q]
    | _ => cases e
def isWordD (n : Int) : D → Bool
  | .tup xs => xs.all (isBt n)
  | _ => false
theorem e_word {x : D} (h : okN 1 x) (n : Int) (st : Sto) : pureF m_is_word [.d x, .d (.int n)] st = .ok (.d (.bl (isWordD n x))) st := by
  refine pureF_d (st1 := []) rfl ?_
  have t := tag_tup' (st := []) h.1
  unfold m_is_word
  by_cases q : isTup x = true
  · cases x with
    | tup xs =>
      obtain ⟨_, h2⟩ := h
      obtain ⟨hl, hy⟩ := h2 xs rfl
      have lc := mLc_map (own := [2]) (mi := mItS (mVar 0)) (tg := gN 2) (te := mCall (withD [] (pureF m_is_between)) (mCons (mVar 2) (mCons (mC (.int 0)) (mCons (mBin oSub (mVar 1) (mC (.int 1))) mNil)))) (ρ := [some (.d (.tup xs)), some (.d (.int n)), none]) (st := []) (st1 := []) xs Va.d (fun y => .bl (isBt n y)) (itS_tup (by simp only [mFun_eq', mSeq_eq, mIfS, mRet, mRetN, mAsg, mPar, mExpr, mSkip, mBrk, mCnt, mBad, mRaise, outE_ok, outT_ok, outE_er, seqO_nx, seqO_rt, seqO_er, retO_rt, retO_nx, retO_er, Res.bind_ok, Res.bind_er, Res.bind_bad, mVar_0, mVar_s, mVarI_0, mVarI_s, strip_ref, strip_non, strip_bl, strip_int, strip_str, strip_lst, strip_tup, strip_obj, strip_lck, strip_idn, mC, mBin, mUn, mTst, mCB, mCons, mNil, mStar, mAnd, mOr, mAndT, mOrT, mNotT, mIf, mTru, truV, mTup, mLst, ds?, ds?_map, mCall, withD, mFld, getF_o, getF_r, oNeg, oNot, oAbs, oMax, oMin, oI1, oI2, oInt, add_ii, sub_ii, lt_ii, le_ii, gt_ii, ge_ii, eq_ii, ne_ii, gN, gT_tup, gL_lst, gsC_cons, gsN_nil, List.map_cons, List.map_nil, List.length_cons, List.length_nil, List.cons_append, List.nil_append, List.append_nil, List.replicate_zero, List.replicate_succ, List.set_cons_zero, List.set_cons_succ, List.zip_cons_cons, List.zip_nil_right, List.foldl_cons, List.foldl_nil, Option.map_some, Option.map_none, Option.bind_some, Nat.reduceAdd, Nat.reduceSub, Nat.reduceEqDiff, Nat.reduceLT, Nat.reduceLeDiff, String.reduceEq, reduceCtorEq, Int.reduceLT, Int.reduceLE, Int.reduceEq, Int.reduceAdd, Int.reduceSub, Int.reduceNeg, Int.reduceMul, String.reduceBEq, decide_true, decide_false, if_true, if_false, ite_true, ite_false, Bool.false_eq_true, Bool.not_true, Bool.not_false, Bool.true_and, Bool.false_and, Bool.and_true, Bool.and_false, Bool.true_or, Bool.false_or, Bool.or_true, Bool.or_false])) (by show _ ≤ 1000000; omega) fun y hy' => by
        have oy := hy y hy'
        have p1 := e_between (x := y) oy n []
        refine ⟨[some (.d (.tup xs)), some (.d (.int n)), some (.d y)], rfl, ?_⟩
        simp only [mFun_eq', mSeq_eq, mIfS, mRet, mRetN, mAsg, mPar, mExpr, mSkip, mBrk, mCnt, mBad, mRaise, outE_ok, outT_ok, outE_er, seqO_nx, seqO_rt, seqO_er, retO_rt, retO_nx, retO_er, Res.bind_ok, Res.bind_er, Res.bind_bad, mVar_0, mVar_s, mVarI_0, mVarI_s, strip_ref, strip_non, strip_bl, strip_int, strip_str, strip_lst, strip_tup, strip_obj, strip_lck, strip_idn, mC, mBin, mUn, mTst, mCB, mCons, mNil, mStar, mAnd, mOr, mAndT, mOrT, mNotT, mIf, mTru, truV, mTup, mLst, ds?, ds?_map, mCall, withD, mFld, getF_o, getF_r, oNeg, oNot, oAbs, oMax, oMin, oI1, oI2, oInt, add_ii, sub_ii, lt_ii, le_ii, gt_ii, ge_ii, eq_ii, ne_ii, gN, gT_tup, gL_lst, gsC_cons, gsN_nil, List.map_cons, List.map_nil, List.length_cons, List.length_nil, List.cons_append, List.nil_append, List.append_nil, List.replicate_zero, List.replicate_succ, List.set_cons_zero, List.set_cons_succ, List.zip_cons_cons, List.zip_nil_right, List.foldl_cons, List.foldl_nil, Option.map_some, Option.map_none, Option.bind_some, Nat.reduceAdd, Nat.reduceSub, Nat.reduceEqDiff, Nat.reduceLT, Nat.reduceLeDiff, String.reduceEq, reduceCtorEq, Int.reduceLT, Int.reduceLE, Int.reduceEq, Int.reduceAdd, Int.reduceSub, Int.reduceNeg, Int.reduceMul, String.reduceBEq, decide_true, decide_false, if_true, if_false, ite_true, ite_false, Bool.false_eq_true, Bool.not_true, Bool.not_false, Bool.true_and, Bool.false_and, Bool.and_true, Bool.and_false, Bool.true_or, Bool.false_or, Bool.or_true, Bool.or_false, strip_ok' oy, p1]
      simp only [mFun_eq', mSeq_eq, mIfS, mRet, mRetN, mAsg, mPar, mExpr, mSkip, mBrk, mCnt, mBad, mRaise, outE_ok, outT_ok, outE_er, seqO_nx, seqO_rt, seqO_er, retO_rt, retO_nx, retO_er, Res.bind_ok, Res.bind_er, Res.bind_bad, mVar_0, mVar_s, mVarI_0, mVarI_s, strip_ref, strip_non, strip_bl, strip_int, strip_str, strip_lst, strip_tup, strip_obj, strip_lck, strip_idn, mC, mBin, mUn, mTst, mCB, mCons, mNil, mStar, mAnd, mOr, mAndT, mOrT, mNotT, mIf, mTru, truV, mTup, mLst, ds?, ds?_map, mCall, withD, mFld, getF_o, getF_r, oNeg, oNot, oAbs, oMax, oMin, oI1, oI2, oInt, add_ii, sub_ii, lt_ii, le_ii, gt_ii, ge_ii, eq_ii, ne_ii, gN, gT_tup, gL_lst, gsC_cons, gsN_nil, List.map_cons, List.map_nil, List.length_cons, List.length_nil, List.cons_append, List.nil_append, List.append_nil, List.replicate_zero, List.replicate_succ, List.set_cons_zero, List.set_cons_succ, List.zip_cons_cons, List.zip_nil_right, List.foldl_cons, List.foldl_nil, Option.map_some, Option.map_none, Option.bind_some, Nat.reduceAdd, Nat.reduceSub, Nat.reduceEqDiff, Nat.reduceLT, Nat.reduceLeDiff, String.reduceEq, reduceCtorEq, Int.reduceLT, Int.reduceLE, Int.reduceEq, Int.reduceAdd, Int.reduceSub, Int.reduceNeg, Int.reduceMul, String.reduceBEq, decide_true, decide_false, if_true, if_false, ite_true, ite_false, Bool.false_eq_true, Bool.not_true, Bool.not_false, Bool.true_and, Bool.false_and, Bool.and_true, Bool.and_false, Bool.true_or, Bool.false_or, Bool.or_true, Bool.or_false, t, isTup, lc, all_map, isWordD]
    | _ => cases q
  · have q' : isTup x = false := by simpa using q
    have e : isWordD n x = false := by cases x <;> first | rfl | (cases q')
    simp only [mFun_eq', mSeq_eq, mIfS, mRet, mRetN, mAsg, mPar, mExpr, mSkip, mBrk, mCnt, mBad, mRaise, outE_ok, outT_ok, outE_er, seqO_nx, seqO_rt, seqO_er, retO_rt, retO_nx, retO_er, Res.bind_ok, Res.bind_er, Res.bind_bad, mVar_0, mVar_s, mVarI_0, mVarI_s, strip_ref, strip_non, strip_bl, strip_int, strip_str, strip_lst, strip_tup, strip_obj, strip_lck, strip_idn, mC, mBin, mUn, mTst, mCB, mCons, mNil, mStar, mAnd, mOr, mAndT, mOrT, mNotT, mIf, mTru, truV, mTup, mLst, ds?, ds?_map, mCall, withD, mFld, getF_o, getF_r, oNeg, oNot, oAbs, oMax, oMin, oI1, oI2, oInt, add_ii, sub_ii, lt_ii, le_ii, gt_ii, ge_ii, eq_ii, ne_ii, gN, gT_tup, gL_lst, gsC_cons, gsN_nil, List.map_cons, List.map_nil, List.length_cons, List.length_nil, List.cons_append, List.nil_append, List.append_nil, List.replicate_zero, List.replicate_succ, List.set_cons_zero, List.set_cons_succ, List.zip_cons_cons, List.zip_nil_right, List.foldl_cons, List.foldl_nil, Option.map_some, Option.map_none, Option.bind_some, Nat.reduceAdd, Nat.reduceSub, Nat.reduceEqDiff, Nat.reduceLT, Nat.reduceLeDiff, String.reduceEq, reduceCtorEq, Int.reduceLT, Int.reduceLE, Int.reduceEq, Int.reduceAdd, Int.reduceSub, Int.reduceNeg, Int.reduceMul, String.reduceBEq, decide_true, decide_false, if_true, if_false, ite_true, ite_false, Bool.false_eq_true, Bool.not_true, Bool.not_false, Bool.true_and, Bool.false_and, Bool.and_true, Bool.and_false, Bool.true_or, Bool.false_or, Bool.or_true, Bool.or_false, strip_ok' h.1, t, q', e]

def tp : D → Int
  | .int p => p
  | .obj _ [(_, .int p), (_, .int _)] => p
  | _ => 0
def bt : D → Nat
  | .int _ => 1
  | .obj _ [(_, .int _), (_, .int q)] => q.toNat
  | _ => 0
def EnD (x : D) : Prop := (∃ p, x = .int p) ∨ ∃ (p : Int) (q : Nat), x = ratD p q ∧ 0 < q
theorem EnD.v {x : D} (h : EnD x) : okV x = true := by
  rcases h with ⟨p, rfl⟩ | ⟨p, q, rfl, _⟩ <;> rfl
theorem EnD.e {x : D} (h : EnD x) : isE x = true := by
  rcases h with ⟨p, rfl⟩ | ⟨p, q, rfl, _⟩
  · rfl
  · show (false || decide ("Ratio" = "Ratio")) = true
    simp
theorem EnD.pos {x : D} (h : EnD x) : 0 < bt x := by
  rcases h with ⟨p, rfl⟩ | ⟨p, q, rfl, h⟩
  · exact Nat.one_pos
  · exact h
theorem isRat_ratD (p q : Int) : isRat (ratD p q) = true := by
  show decide ("Ratio" = "Ratio") = true
  simp
theorem e_top (p q : Int) (st : Sto) : pureF m_Ratio_top [.d (ratD p q)] st = .ok (.d (.int p)) st := by
  refine pureF_d (st1 := []) rfl ?_
  unfold m_Ratio_top
  simp only [mFun_eq', mSeq_eq, mIfS, mRet, mRetN, mAsg, mPar, mExpr, mSkip, mBrk, mCnt, mBad, mRaise, outE_ok, outT_ok, outE_er, seqO_nx, seqO_rt, seqO_er, retO_rt, retO_nx, retO_er, Res.bind_ok, Res.bind_er, Res.bind_bad, mVar_0, mVar_s, mVarI_0, mVarI_s, strip_ref, strip_non, strip_bl, strip_int, strip_str, strip_lst, strip_tup, strip_obj, strip_lck, strip_idn, mC, mBin, mUn, mTst, mCB, mCons, mNil, mStar, mAnd, mOr, mAndT, mOrT, mNotT, mIf, mTru, truV, mTup, mLst, ds?, ds?_map, mCall, withD, mFld, getF_o, getF_r, oNeg, oNot, oAbs, oMax, oMin, oI1, oI2, oInt, add_ii, sub_ii, lt_ii, le_ii, gt_ii, ge_ii, eq_ii, ne_ii, gN, gT_tup, gL_lst, gsC_cons, gsN_nil, List.map_cons, List.map_nil, List.length_cons, List.length_nil, List.cons_append, List.nil_append, List.append_nil, List.replicate_zero, List.replicate_succ, List.set_cons_zero, List.set_cons_succ, List.zip_cons_cons, List.zip_nil_right, List.foldl_cons, List.foldl_nil, Option.map_some, Option.map_none, Option.bind_some, Nat.reduceAdd, Nat.reduceSub, Nat.reduceEqDiff, Nat.reduceLT, Nat.reduceLeDiff, String.reduceEq, reduceCtorEq, Int.reduceLT, Int.reduceLE, Int.reduceEq, Int.reduceAdd, Int.reduceSub, Int.reduceNeg, Int.reduceMul, String.reduceBEq, decide_true, decide_false, if_true, if_false, ite_true, ite_false, Bool.false_eq_true, Bool.not_true, Bool.not_false, Bool.true_and, Bool.false_and, Bool.and_true, Bool.and_false, Bool.true_or, Bool.false_or, Bool.or_true, Bool.or_false, ratD, List.lookup, beq_self_eq_true]
theorem e_bottom (p q : Int) (st : Sto) : pureF m_Ratio_bottom [.d (ratD p q)] st = .ok (.d (.int q)) st := by
  refine pureF_d (st1 := []) rfl ?_
  unfold m_Ratio_bottom
  have z : ("own_bottom" == "own_top") = false := by decide
  simp only [mFun_eq', mSeq_eq, mIfS, mRet, mRetN, mAsg, mPar, mExpr, mSkip, mBrk, mCnt, mBad, mRaise, outE_ok, outT_ok, outE_er, seqO_nx, seqO_rt, seqO_er, retO_rt, retO_nx, retO_er, Res.bind_ok, Res.bind_er, Res.bind_bad, mVar_0, mVar_s, mVarI_0, mVarI_s, strip_ref, strip_non, strip_bl, strip_int, strip_str, strip_lst, strip_tup, strip_obj, strip_lck, strip_idn, mC, mBin, mUn, mTst, mCB, mCons, mNil, mStar, mAnd, mOr, mAndT, mOrT, mNotT, mIf, mTru, truV, mTup, mLst, ds?, ds?_map, mCall, withD, mFld, getF_o, getF_r, oNeg, oNot, oAbs, oMax, oMin, oI1, oI2, oInt, add_ii, sub_ii, lt_ii, le_ii, gt_ii, ge_ii, eq_ii, ne_ii, gN, gT_tup, gL_lst, gsC_cons, gsN_nil, List.map_cons, List.map_nil, List.length_cons, List.length_nil, List.cons_append, List.nil_append, List.append_nil, List.replicate_zero, List.replicate_succ, List.set_cons_zero, List.set_cons_succ, List.zip_cons_cons, List.zip_nil_right, List.foldl_cons, List.foldl_nil, Option.map_some, Option.map_none, Option.bind_some, Nat.reduceAdd, Nat.reduceSub, Nat.reduceEqDiff, Nat.reduceLT, Nat.reduceLeDiff, String.reduceEq, reduceCtorEq, Int.reduceLT, Int.reduceLE, Int.reduceEq, Int.reduceAdd, Int.reduceSub, Int.reduceNeg, Int.reduceMul, String.reduceBEq, decide_true, decide_false, if_true, if_false, ite_true, ite_false, Bool.false_eq_true, Bool.not_true, Bool.not_false, Bool.true_and, Bool.false_and, Bool.and_true, Bool.and_false, Bool.true_or, Bool.false_or, Bool.or_true, Bool.or_false, ratD, List.lookup, beq_self_eq_true, z]
theorem p_top {p q : Int} {ρ : Ev} {st st1 : Sto} {o : ME} (h : o ρ st = .ok (.d (ratD p q)) st1) : mProp "Ratio" (pureF m_Ratio_top) o ρ st = .ok (.d (.int p)) st1 := by
  unfold mProp
  rw [h]
  show (if "Ratio" = "Ratio" then noEr (pureF m_Ratio_top [.d (ratD p q)] st1) else .bad) = _
  rw [if_pos rfl, e_top]
  rfl
theorem p_bottom {p q : Int} {ρ : Ev} {st st1 : Sto} {o : ME} (h : o ρ st = .ok (.d (ratD p q)) st1) : mProp "Ratio" (pureF m_Ratio_bottom) o ρ st = .ok (.d (.int q)) st1 := by
  unfold mProp
  rw [h]
  show (if "Ratio" = "Ratio" then noEr (pureF m_Ratio_bottom [.d (ratD p q)] st1) else .bad) = _
  rw [if_pos rfl, e_bottom]
  rfl
theorem e_bottom_of {x : D} (h : EnD x) (st : Sto) : pureF m_bottom_of [.d x] st = .ok (.d (.int (bt x))) st := by
  refine pureF_d (st1 := []) rfl ?_
  unfold m_bottom_of
  rcases h with ⟨p, rfl⟩ | ⟨p, q, rfl, h⟩
  · have t := tag_rat (x := .int p) (st := []) rfl
    simp only [mFun_eq', mSeq_eq, mIfS, mRet, mRetN, mAsg, mPar, mExpr, mSkip, mBrk, mCnt, mBad, mRaise, outE_ok, outT_ok, outE_er, seqO_nx, seqO_rt, seqO_er, retO_rt, retO_nx, retO_er, Res.bind_ok, Res.bind_er, Res.bind_bad, mVar_0, mVar_s, mVarI_0, mVarI_s, strip_ref, strip_non, strip_bl, strip_int, strip_str, strip_lst, strip_tup, strip_obj, strip_lck, strip_idn, mC, mBin, mUn, mTst, mCB, mCons, mNil, mStar, mAnd, mOr, mAndT, mOrT, mNotT, mIf, mTru, truV, mTup, mLst, ds?, ds?_map, mCall, withD, mFld, getF_o, getF_r, oNeg, oNot, oAbs, oMax, oMin, oI1, oI2, oInt, add_ii, sub_ii, lt_ii, le_ii, gt_ii, ge_ii, eq_ii, ne_ii, gN, gT_tup, gL_lst, gsC_cons, gsN_nil, List.map_cons, List.map_nil, List.length_cons, List.length_nil, List.cons_append, List.nil_append, List.append_nil, List.replicate_zero, List.replicate_succ, List.set_cons_zero, List.set_cons_succ, List.zip_cons_cons, List.zip_nil_right, List.foldl_cons, List.foldl_nil, Option.map_some, Option.map_none, Option.bind_some, Nat.reduceAdd, Nat.reduceSub, Nat.reduceEqDiff, Nat.reduceLT, Nat.reduceLeDiff, String.reduceEq, reduceCtorEq, Int.reduceLT, Int.reduceLE, Int.reduceEq, Int.reduceAdd, Int.reduceSub, Int.reduceNeg, Int.reduceMul, String.reduceBEq, decide_true, decide_false, if_true, if_false, ite_true, ite_false, Bool.false_eq_true, Bool.not_true, Bool.not_false, Bool.true_and, Bool.false_and, Bool.and_true, Bool.and_false, Bool.true_or, Bool.false_or, Bool.or_true, Bool.or_false, t, isRat, bt]
    rfl
  · have t := tag_rat (x := ratD p q) (st := []) rfl
    have b := p_bottom (o := mVar 0) (ρ := [some (.d (ratD p q))]) (st := []) (st1 := []) (p := p) (q := q) rfl
    have r : isRat (ratD p q) = true := isRat_ratD p q
    have s : strip (.d (ratD p q)) = .d (ratD p q) := rfl
    rw [r] at t
    simp only [mFun_eq', mSeq_eq, mIfS, mRet, mRetN, mAsg, mPar, mExpr, mSkip, mBrk, mCnt, mBad, mRaise, outE_ok, outT_ok, outE_er, seqO_nx, seqO_rt, seqO_er, retO_rt, retO_nx, retO_er, Res.bind_ok, Res.bind_er, Res.bind_bad, mVar_0, mVar_s, mVarI_0, mVarI_s, strip_ref, strip_non, strip_bl, strip_int, strip_str, strip_lst, strip_tup, strip_obj, strip_lck, strip_idn, mC, mBin, mUn, mTst, mCB, mCons, mNil, mStar, mAnd, mOr, mAndT, mOrT, mNotT, mIf, mTru, truV, mTup, mLst, ds?, ds?_map, mCall, withD, mFld, getF_o, getF_r, oNeg, oNot, oAbs, oMax, oMin, oI1, oI2, oInt, add_ii, sub_ii, lt_ii, le_ii, gt_ii, ge_ii, eq_ii, ne_ii, gN, gT_tup, gL_lst, gsC_cons, gsN_nil, List.map_cons, List.map_nil, List.length_cons, List.length_nil, List.cons_append, List.nil_append, List.append_nil, List.replicate_zero, List.replicate_succ, List.set_cons_zero, List.set_cons_succ, List.zip_cons_cons, List.zip_nil_right, List.foldl_cons, List.foldl_nil, Option.map_some, Option.map_none, Option.bind_some, Nat.reduceAdd, Nat.reduceSub, Nat.reduceEqDiff, Nat.reduceLT, Nat.reduceLeDiff, String.reduceEq, reduceCtorEq, Int.reduceLT, Int.reduceLE, Int.reduceEq, Int.reduceAdd, Int.reduceSub, Int.reduceNeg, Int.reduceMul, String.reduceBEq, decide_true, decide_false, if_true, if_false, ite_true, ite_false, Bool.false_eq_true, Bool.not_true, Bool.not_false, Bool.true_and, Bool.false_and, Bool.and_true, Bool.and_false, Bool.true_or, Bool.false_or, Bool.or_true, Bool.or_false, s, t, b]
    rfl
/-- an entry, made whole -/
def gr (W : Nat) (x : D) : Int := tp x * ((W / bt x : Nat) : Int)
theorem e_times_of {x : D} {W : Nat} (h : EnD x) (hd : bt x ∣ W) (hW : Bd 5000 W) (h0 : 0 < W) (ht : Bd 5000 (tp x)) (st : Sto) : pureF m_times_of [.d x, .d (.int W)] st = .ok (.d (.int (gr W x))) st := by
  refine pureF_d (st1 := []) rfl ?_
  unfold m_times_of
  rcases h with ⟨p, rfl⟩ | ⟨p, q, rfl, h⟩
  · have t := tag_rat (x := .int p) (st := []) rfl
    have m := mul_ok (i := p) (j := W) [] (ht.cmul hW (by decide))
    simp only [mFun_eq', mSeq_eq, mIfS, mRet, mRetN, mAsg, mPar, mExpr, mSkip, mBrk, mCnt, mBad, mRaise, outE_ok, outT_ok, outE_er, seqO_nx, seqO_rt, seqO_er, retO_rt, retO_nx, retO_er, Res.bind_ok, Res.bind_er, Res.bind_bad, mVar_0, mVar_s, mVarI_0, mVarI_s, strip_ref, strip_non, strip_bl, strip_int, strip_str, strip_lst, strip_tup, strip_obj, strip_lck, strip_idn, mC, mBin, mUn, mTst, mCB, mCons, mNil, mStar, mAnd, mOr, mAndT, mOrT, mNotT, mIf, mTru, truV, mTup, mLst, ds?, ds?_map, mCall, withD, mFld, getF_o, getF_r, oNeg, oNot, oAbs, oMax, oMin, oI1, oI2, oInt, add_ii, sub_ii, lt_ii, le_ii, gt_ii, ge_ii, eq_ii, ne_ii, gN, gT_tup, gL_lst, gsC_cons, gsN_nil, List.map_cons, List.map_nil, List.length_cons, List.length_nil, List.cons_append, List.nil_append, List.append_nil, List.replicate_zero, List.replicate_succ, List.set_cons_zero, List.set_cons_succ, List.zip_cons_cons, List.zip_nil_right, List.foldl_cons, List.foldl_nil, Option.map_some, Option.map_none, Option.bind_some, Nat.reduceAdd, Nat.reduceSub, Nat.reduceEqDiff, Nat.reduceLT, Nat.reduceLeDiff, String.reduceEq, reduceCtorEq, Int.reduceLT, Int.reduceLE, Int.reduceEq, Int.reduceAdd, Int.reduceSub, Int.reduceNeg, Int.reduceMul, String.reduceBEq, decide_true, decide_false, if_true, if_false, ite_true, ite_false, Bool.false_eq_true, Bool.not_true, Bool.not_false, Bool.true_and, Bool.false_and, Bool.and_true, Bool.and_false, Bool.true_or, Bool.false_or, Bool.or_true, Bool.or_false, t, isRat, m]
    show Res.ok (Va.d (.int (p * W))) _ = .ok (Va.d (.int (p * ((W / 1 : Nat) : Int)))) _
    rw [Nat.div_one]
  · have t := tag_rat (x := ratD p q) (st := []) rfl
    have b := p_bottom (o := mVar 0) (ρ := [some (.d (ratD p q)), some (.d (.int W))]) (st := []) (st1 := []) (p := p) (q := q) rfl
    have tt := p_top (o := mVar 0) (ρ := [some (.d (ratD p q)), some (.d (.int W))]) (st := []) (st1 := []) (p := p) (q := q) rfl
    have r : isRat (ratD p q) = true := isRat_ratD p q
    have s : strip (.d (ratD p q)) = .d (ratD p q) := rfl
    rw [r] at t
    have hd : q ∣ W := hd
    have ht : Bd 5000 p := ht
    have b1 : Bd 5000 (q : Int) := hW.dvd (Int.ofNat_dvd.mpr hd) (by omega)
    have f1 := fdiv_ok (i := W) (j := q) [] ⟨by omega, by have := b1.log2; omega⟩
    have e1 : (W : Int).fdiv q = ((W / q : Nat) : Int) := by rw [Int.natCast_ediv, Int.fdiv_eq_ediv_of_nonneg _ (by omega)]
    rw [e1] at f1
    have b2 : Bd 5000 ((W / q : Nat) : Int) := Nat.lt_of_le_of_lt (Nat.div_le_self ..) hW
    have m := mul_ok (i := p) (j := ((W / q : Nat) : Int)) [] (ht.cmul b2 (by decide))
    simp only [mFun_eq', mSeq_eq, mIfS, mRet, mRetN, mAsg, mPar, mExpr, mSkip, mBrk, mCnt, mBad, mRaise, outE_ok, outT_ok, outE_er, seqO_nx, seqO_rt, seqO_er, retO_rt, retO_nx, retO_er, Res.bind_ok, Res.bind_er, Res.bind_bad, mVar_0, mVar_s, mVarI_0, mVarI_s, strip_ref, strip_non, strip_bl, strip_int, strip_str, strip_lst, strip_tup, strip_obj, strip_lck, strip_idn, mC, mBin, mUn, mTst, mCB, mCons, mNil, mStar, mAnd, mOr, mAndT, mOrT, mNotT, mIf, mTru, truV, mTup, mLst, ds?, ds?_map, mCall, withD, mFld, getF_o, getF_r, oNeg, oNot, oAbs, oMax, oMin, oI1, oI2, oInt, add_ii, sub_ii, lt_ii, le_ii, gt_ii, ge_ii, eq_ii, ne_ii, gN, gT_tup, gL_lst, gsC_cons, gsN_nil, List.map_cons, List.map_nil, List.length_cons, List.length_nil, List.cons_append, List.nil_append, List.append_nil, List.replicate_zero, List.replicate_succ, List.set_cons_zero, List.set_cons_succ, List.zip_cons_cons, List.zip_nil_right, List.foldl_cons, List.foldl_nil, Option.map_some, Option.map_none, Option.bind_some, Nat.reduceAdd, Nat.reduceSub, Nat.reduceEqDiff, Nat.reduceLT, Nat.reduceLeDiff, String.reduceEq, reduceCtorEq, Int.reduceLT, Int.reduceLE, Int.reduceEq, Int.reduceAdd, Int.reduceSub, Int.reduceNeg, Int.reduceMul, String.reduceBEq, decide_true, decide_false, if_true, if_false, ite_true, ite_false, Bool.false_eq_true, Bool.not_true, Bool.not_false, Bool.true_and, Bool.false_and, Bool.and_true, Bool.and_false, Bool.true_or, Bool.false_or, Bool.or_true, Bool.or_false, s, t, b, tt, f1, m]
    rfl
/-! the entries -/
def rowD (r : List D) : D := .tup r
def matD (m : List (List D)) : D := .tup (m.map D.tup)
def machD (f : List D) (ms : List (List (List D))) (l : List D) : D := .tup [.tup f, .tup (ms.map matD), .tup l]
def allE (f : List D) (ms : List (List (List D))) (l : List D) : List D := f ++ l ++ ms.flatten.flatten
theorem foldl_app {α : Type} (l : List (List α)) : ∀ a : List α, l.foldl (fun a r => a ++ r) a = a ++ l.flatten := by
  induction l with
  | nil => intro a; simp
  | cons x l ih => intro a; rw [List.foldl_cons, ih, List.flatten_cons, List.append_assoc]
theorem foldl_app2 {α : Type} (l : List (List (List α))) : ∀ a : List α, l.foldl (fun a r => a ++ r.flatten) a = a ++ l.flatten.flatten := by
  induction l with
  | nil => intro a; simp
  | cons x l ih => intro a; rw [List.foldl_cons, ih, List.flatten_cons, List.flatten_append, List.append_assoc]
theorem e_entries_in {f l : List D} {ms : List (List (List D))} (hl : (allE f ms l).length ≤ 1000) (st : Sto) : pureF m_entries_in [.d (machD f ms l)] st = .ok (.d (.lst (allE f ms l))) st := by
  have hl : (f ++ l ++ ms.flatten.flatten).length ≤ 1000 := hl
  have o := mFor_fold (mi := mItS (mVar 2)) (tg := gN 5) (b := mFor (mItS (mVar 5)) (gN 6) (mExpr (mLM oExtend (mVar 4) (mCons (mVar 6) mNil)))) (g := fun m => Va.d (matD m))
    (S := fun (a : List D) ρ st => st = [.lst (a.map Va.d)] ∧ ∃ u v, ρ = [some (.d (machD f ms l)), some (.d (.tup f)), some (.d (.tup (ms.map matD))), some (.d (.tup l)), some (.ref 0), u, v]) (step := fun a m => a ++ m.flatten)
    ms (f ++ l) (ρ := [some (.d (machD f ms l)), some (.d (.tup f)), some (.d (.tup (ms.map matD))), some (.d (.tup l)), some (.ref 0), none, none]) (st := [.lst ((f ++ l).map Va.d)]) (st0 := [.lst ((f ++ l).map Va.d)])
    (by rw [itS_tup (xs := ms.map matD) (st1 := [.lst ((f ++ l).map Va.d)]) (by simp only [mFun_eq', mSeq_eq, mIfS, mRet, mRetN, mAsg, mPar, mExpr, mSkip, mBrk, mCnt, mBad, mRaise, outE_ok, outT_ok, outE_er, seqO_nx, seqO_rt, seqO_er, retO_rt, retO_nx, retO_er, Res.bind_ok, Res.bind_er, Res.bind_bad, mVar_0, mVar_s, mVarI_0, mVarI_s, strip_ref, strip_non, strip_bl, strip_int, strip_str, strip_lst, strip_tup, strip_obj, strip_lck, strip_idn, mC, mBin, mUn, mTst, mCB, mCons, mNil, mStar, mAnd, mOr, mAndT, mOrT, mNotT, mIf, mTru, truV, mTup, mLst, ds?, ds?_map, mCall, withD, mFld, getF_o, getF_r, oNeg, oNot, oAbs, oMax, oMin, oI1, oI2, oInt, add_ii, sub_ii, lt_ii, le_ii, gt_ii, ge_ii, eq_ii, ne_ii, gN, gT_tup, gL_lst, gsC_cons, gsN_nil, List.map_cons, List.map_nil, List.length_cons, List.length_nil, List.cons_append, List.nil_append, List.append_nil, List.replicate_zero, List.replicate_succ, List.set_cons_zero, List.set_cons_succ, List.zip_cons_cons, List.zip_nil_right, List.foldl_cons, List.foldl_nil, Option.map_some, Option.map_none, Option.bind_some, Nat.reduceAdd, Nat.reduceSub, Nat.reduceEqDiff, Nat.reduceLT, Nat.reduceLeDiff, String.reduceEq, reduceCtorEq, Int.reduceLT, Int.reduceLE, Int.reduceEq, Int.reduceAdd, Int.reduceSub, Int.reduceNeg, Int.reduceMul, String.reduceBEq, decide_true, decide_false, if_true, if_false, ite_true, ite_false, Bool.false_eq_true, Bool.not_true, Bool.not_false, Bool.true_and, Bool.false_and, Bool.and_true, Bool.and_false, Bool.true_or, Bool.false_or, Bool.or_true, Bool.or_false]), List.map_map]; rfl) ⟨rfl, none, none, rfl⟩ fun l1 m l2 e ρ st hs => by
      obtain ⟨rfl, u, v, rfl⟩ := hs
      rw [foldl_app2]
      have i := mFor_fold (mi := mItS (mVar 5)) (tg := gN 6) (b := mExpr (mLM oExtend (mVar 4) (mCons (mVar 6) mNil))) (g := fun r => Va.d (.tup r))
        (S := fun (a : List D) ρ st => st = [.lst (a.map Va.d)] ∧ ∃ v, ρ = [some (.d (machD f ms l)), some (.d (.tup f)), some (.d (.tup (ms.map matD))), some (.d (.tup l)), some (.ref 0), some (.d (matD m)), v]) (step := fun a r => a ++ r)
        m (f ++ l ++ l1.flatten.flatten) (ρ := [some (.d (machD f ms l)), some (.d (.tup f)), some (.d (.tup (ms.map matD))), some (.d (.tup l)), some (.ref 0), some (.d (matD m)), v]) (st := [.lst ((f ++ l ++ l1.flatten.flatten).map Va.d)]) (st0 := [.lst ((f ++ l ++ l1.flatten.flatten).map Va.d)])
        (by rw [itS_tup (xs := m.map D.tup) (st1 := [.lst ((f ++ l ++ l1.flatten.flatten).map Va.d)]) (by simp only [mFun_eq', mSeq_eq, mIfS, mRet, mRetN, mAsg, mPar, mExpr, mSkip, mBrk, mCnt, mBad, mRaise, outE_ok, outT_ok, outE_er, seqO_nx, seqO_rt, seqO_er, retO_rt, retO_nx, retO_er, Res.bind_ok, Res.bind_er, Res.bind_bad, mVar_0, mVar_s, mVarI_0, mVarI_s, strip_ref, strip_non, strip_bl, strip_int, strip_str, strip_lst, strip_tup, strip_obj, strip_lck, strip_idn, mC, mBin, mUn, mTst, mCB, mCons, mNil, mStar, mAnd, mOr, mAndT, mOrT, mNotT, mIf, mTru, truV, mTup, mLst, ds?, ds?_map, mCall, withD, mFld, getF_o, getF_r, oNeg, oNot, oAbs, oMax, oMin, oI1, oI2, oInt, add_ii, sub_ii, lt_ii, le_ii, gt_ii, ge_ii, eq_ii, ne_ii, gN, gT_tup, gL_lst, gsC_cons, gsN_nil, List.map_cons, List.map_nil, List.length_cons, List.length_nil, List.cons_append, List.nil_append, List.append_nil, List.replicate_zero, List.replicate_succ, List.set_cons_zero, List.set_cons_succ, List.zip_cons_cons, List.zip_nil_right, List.foldl_cons, List.foldl_nil, Option.map_some, Option.map_none, Option.bind_some, Nat.reduceAdd, Nat.reduceSub, Nat.reduceEqDiff, Nat.reduceLT, Nat.reduceLeDiff, String.reduceEq, reduceCtorEq, Int.reduceLT, Int.reduceLE, Int.reduceEq, Int.reduceAdd, Int.reduceSub, Int.reduceNeg, Int.reduceMul, String.reduceBEq, decide_true, decide_false, if_true, if_false, ite_true, ite_false, Bool.false_eq_true, Bool.not_true, Bool.not_false, Bool.true_and, Bool.false_and, Bool.and_true, Bool.and_false, Bool.true_or, Bool.false_or, Bool.or_true, Bool.or_false, matD]), List.map_map]; rfl) ⟨rfl, v, rfl⟩ fun k1 r k2 e2 ρ st hs => by
          obtain ⟨rfl, v, rfl⟩ := hs
          rw [foldl_app]
          refine ⟨[some (.d (machD f ms l)), some (.d (.tup f)), some (.d (.tup (ms.map matD))), some (.d (.tup l)), some (.ref 0), some (.d (matD m)), some (.d (.tup r))], _, [.lst ((f ++ l ++ l1.flatten.flatten ++ k1.flatten ++ r).map Va.d)], rfl, ?_, rfl, some (.d (.tup r)), rfl⟩
          have le : (f ++ l ++ l1.flatten.flatten ++ k1.flatten).length + r.length ≤ 1000 := by
            rw [e, e2] at hl
            simp only [List.flatten_append, List.flatten_cons, List.length_append] at hl
            simp only [List.length_append]
            omega
          have x : oExtend (.ref 0) [.d (.tup r)] [.lst ((f ++ l ++ l1.flatten.flatten ++ k1.flatten).map Va.d)] = .ok (.d .non) [.lst ((f ++ l ++ l1.flatten.flatten ++ k1.flatten ++ r).map Va.d)] := by
            unfold oExtend
            show (if ((f ++ l ++ l1.flatten.flatten ++ k1.flatten).map Va.d).length + r.length ≤ cap then Res.ok (Va.d .non) ([MO.lst ((f ++ l ++ l1.flatten.flatten ++ k1.flatten).map Va.d)].set 0 (.lst ((f ++ l ++ l1.flatten.flatten ++ k1.flatten).map Va.d ++ r.map Va.d))) else .bad) = _
            rw [if_pos (by rw [List.length_map]; show _ ≤ 1000000; omega), ← List.map_append]
            rfl
          have il : isLst (.ref 0) [.lst ((f ++ l ++ l1.flatten.flatten ++ k1.flatten).map Va.d)] = true := rfl
          simp only [mFun_eq', mSeq_eq, mIfS, mRet, mRetN, mAsg, mPar, mExpr, mSkip, mBrk, mCnt, mBad, mRaise, outE_ok, outT_ok, outE_er, seqO_nx, seqO_rt, seqO_er, retO_rt, retO_nx, retO_er, Res.bind_ok, Res.bind_er, Res.bind_bad, mVar_0, mVar_s, mVarI_0, mVarI_s, strip_ref, strip_non, strip_bl, strip_int, strip_str, strip_lst, strip_tup, strip_obj, strip_lck, strip_idn, mC, mBin, mUn, mTst, mCB, mCons, mNil, mStar, mAnd, mOr, mAndT, mOrT, mNotT, mIf, mTru, truV, mTup, mLst, ds?, ds?_map, mCall, withD, mFld, getF_o, getF_r, oNeg, oNot, oAbs, oMax, oMin, oI1, oI2, oInt, add_ii, sub_ii, lt_ii, le_ii, gt_ii, ge_ii, eq_ii, ne_ii, gN, gT_tup, gL_lst, gsC_cons, gsN_nil, List.map_cons, List.map_nil, List.length_cons, List.length_nil, List.cons_append, List.nil_append, List.append_nil, List.replicate_zero, List.replicate_succ, List.set_cons_zero, List.set_cons_succ, List.zip_cons_cons, List.zip_nil_right, List.foldl_cons, List.foldl_nil, Option.map_some, Option.map_none, Option.bind_some, Nat.reduceAdd, Nat.reduceSub, Nat.reduceEqDiff, Nat.reduceLT, Nat.reduceLeDiff, String.reduceEq, reduceCtorEq, Int.reduceLT, Int.reduceLE, Int.reduceEq, Int.reduceAdd, Int.reduceSub, Int.reduceNeg, Int.reduceMul, String.reduceBEq, decide_true, decide_false, if_true, if_false, ite_true, ite_false, Bool.false_eq_true, Bool.not_true, Bool.not_false, Bool.true_and, Bool.false_and, Bool.and_true, Bool.and_false, Bool.true_or, Bool.false_or, Bool.or_true, Bool.or_false, mLM, il, x]
      obtain ⟨ρ1, st1, h1, rfl, v, rfl⟩ := i
      refine ⟨[some (.d (machD f ms l)), some (.d (.tup f)), some (.d (.tup (ms.map matD))), some (.d (.tup l)), some (.ref 0), some (.d (matD m)), _], _, _, rfl, h1, ?_, _, _, rfl⟩
      rw [foldl_app]
  obtain ⟨ρ1, st1, h1, rfl, u, v, rfl⟩ := o
  refine pureF_r (v := .ref 0) (st1 := [.lst ((allE f ms l).map Va.d)]) rfl ?_ ?_
  · unfold m_entries_in
    have lc : mLstC (mStar (mVar 1) (mStar (mVar 3) mNil)) [some (.d (machD f ms l)), some (.d (.tup f)), some (.d (.tup (ms.map matD))), some (.d (.tup l)), none, none, none] [] = .ok (.ref 0) [.lst ((f ++ l).map Va.d)] := by
      unfold mLstC
      simp only [mFun_eq', mSeq_eq, mIfS, mRet, mRetN, mAsg, mPar, mExpr, mSkip, mBrk, mCnt, mBad, mRaise, outE_ok, outT_ok, outE_er, seqO_nx, seqO_rt, seqO_er, retO_rt, retO_nx, retO_er, Res.bind_ok, Res.bind_er, Res.bind_bad, mVar_0, mVar_s, mVarI_0, mVarI_s, strip_ref, strip_non, strip_bl, strip_int, strip_str, strip_lst, strip_tup, strip_obj, strip_lck, strip_idn, mC, mBin, mUn, mTst, mCB, mCons, mNil, mStar, mAnd, mOr, mAndT, mOrT, mNotT, mIf, mTru, truV, mTup, mLst, ds?, ds?_map, mCall, withD, mFld, getF_o, getF_r, oNeg, oNot, oAbs, oMax, oMin, oI1, oI2, oInt, add_ii, sub_ii, lt_ii, le_ii, gt_ii, ge_ii, eq_ii, ne_ii, gN, gT_tup, gL_lst, gsC_cons, gsN_nil, List.map_cons, List.map_nil, List.length_cons, List.length_nil, List.cons_append, List.nil_append, List.append_nil, List.replicate_zero, List.replicate_succ, List.set_cons_zero, List.set_cons_succ, List.zip_cons_cons, List.zip_nil_right, List.foldl_cons, List.foldl_nil, Option.map_some, Option.map_none, Option.bind_some, Nat.reduceAdd, Nat.reduceSub, Nat.reduceEqDiff, Nat.reduceLT, Nat.reduceLeDiff, String.reduceEq, reduceCtorEq, Int.reduceLT, Int.reduceLE, Int.reduceEq, Int.reduceAdd, Int.reduceSub, Int.reduceNeg, Int.reduceMul, String.reduceBEq, decide_true, decide_false, if_true, if_false, ite_true, ite_false, Bool.false_eq_true, Bool.not_true, Bool.not_false, Bool.true_and, Bool.false_and, Bool.and_true, Bool.and_false, Bool.true_or, Bool.false_or, Bool.or_true, Bool.or_false, itemsOf]
      rw [if_pos (by rw [← List.map_append, List.length_map]; show _ ≤ 1000000; simp only [List.length_append] at hl ⊢; omega), ← List.map_append]
      try rfl
    have sm : strip (.d (machD f ms l)) = .d (machD f ms l) := rfl
    have g3 : gT 3 (gsC (gN 1) (gsC (gN 2) (gsC (gN 3) gsN))) (.d (machD f ms l)) [some (.d (machD f ms l)), none, none, none, none, none, none] = some [some (.d (machD f ms l)), some (.d (.tup f)), some (.d (.tup (ms.map matD))), some (.d (.tup l)), none, none, none] := rfl
    rw [foldl_app2] at h1
    simp only [mFun_eq', mSeq_eq, mIfS, mRet, mRetN, mAsg, mPar, mExpr, mSkip, mBrk, mCnt, mBad, mRaise, outE_ok, outT_ok, outE_er, seqO_nx, seqO_rt, seqO_er, retO_rt, retO_nx, retO_er, Res.bind_ok, Res.bind_er, Res.bind_bad, mVar_0, mVar_s, mVarI_0, mVarI_s, strip_ref, strip_non, strip_bl, strip_int, strip_str, strip_lst, strip_tup, strip_obj, strip_lck, strip_idn, mC, mBin, mUn, mTst, mCB, mCons, mNil, mStar, mAnd, mOr, mAndT, mOrT, mNotT, mIf, mTru, truV, mTup, mLst, ds?, ds?_map, mCall, withD, mFld, getF_o, getF_r, oNeg, oNot, oAbs, oMax, oMin, oI1, oI2, oInt, add_ii, sub_ii, lt_ii, le_ii, gt_ii, ge_ii, eq_ii, ne_ii, gN, gT_tup, gL_lst, gsC_cons, gsN_nil, List.map_cons, List.map_nil, List.length_cons, List.length_nil, List.cons_append, List.nil_append, List.append_nil, List.replicate_zero, List.replicate_succ, List.set_cons_zero, List.set_cons_succ, List.zip_cons_cons, List.zip_nil_right, List.foldl_cons, List.foldl_nil, Option.map_some, Option.map_none, Option.bind_some, Nat.reduceAdd, Nat.reduceSub, Nat.reduceEqDiff, Nat.reduceLT, Nat.reduceLeDiff, String.reduceEq, reduceCtorEq, Int.reduceLT, Int.reduceLE, Int.reduceEq, Int.reduceAdd, Int.reduceSub, Int.reduceNeg, Int.reduceMul, String.reduceBEq, decide_true, decide_false, if_true, if_false, ite_true, ite_false, Bool.false_eq_true, Bool.not_true, Bool.not_false, Bool.true_and, Bool.false_and, Bool.and_true, Bool.and_false, Bool.true_or, Bool.false_or, Bool.or_true, Bool.or_false, sm, g3, lc, h1]
    rfl
  · show (mapO (rsv _ 1) ((allE f ms l).map Va.d)).map D.lst = _
    have mo : ∀ (s : Sto) (xs : List D), mapO (rsv s 1) (xs.map Va.d) = some xs := fun s xs => by
      induction xs with
      | nil => rfl
      | cons x xs ih =>
        rw [List.map_cons]
        unfold mapO
        rw [rsv_d, ih]
    rw [mo]
    rfl

def rowI (r : List Int) : D := .lst (r.map D.int)
def matI (m : List (List Int)) : D := .lst (m.map rowI)
theorem atI_nat {α : Type} {xs : List α} {j : Nat} {x : α} (h : xs[j]? = some x) : atI xs (j : Int) = some x := by
  have hj := (List.getElem?_eq_some_iff.mp h).1
  unfold atI ixN
  rw [if_pos (by omega), if_pos (by omega)]
  show xs[((j : Int).toNat)]? = _
  rw [Int.toNat_natCast, h]
theorem e_grown {r : List D} {W : Nat} {c : String} {fs : List (String × Va)} {st : Sto} (h0 : st[0]? = some (.obj c fs)) (hf : fs.lookup "own_whole" = some (.d (.int W))) (hr : r.length ≤ 1000) (hW : Bd 5000 W) (hp : 0 < W) (he : ∀ x ∈ r, EnD x ∧ bt x ∣ W ∧ Bd 5000 (tp x)) : m_WholeMachine_grown [.ref 0, .d (.tup r)] st = .ok (.d (rowI (r.map (gr W)))) st := by
  have lc := mLc_map (own := [2]) (mi := mItS (mVar 1)) (tg := gN 2) (te := mCall (withD [] (pureF m_times_of)) (mCons (mVar 2) (mCons (mFld "own_whole" (mVar 0)) mNil))) (ρ := [some (.ref 0), some (.d (.tup r)), none]) (st := st) (st1 := st) r Va.d (fun x => .int (gr W x)) (itS_tup (by simp only [mFun_eq', mSeq_eq, mIfS, mRet, mRetN, mAsg, mPar, mExpr, mSkip, mBrk, mCnt, mBad, mRaise, outE_ok, outT_ok, outE_er, seqO_nx, seqO_rt, seqO_er, retO_rt, retO_nx, retO_er, Res.bind_ok, Res.bind_er, Res.bind_bad, mVar_0, mVar_s, mVarI_0, mVarI_s, strip_ref, strip_non, strip_bl, strip_int, strip_str, strip_lst, strip_tup, strip_obj, strip_lck, strip_idn, mC, mBin, mUn, mTst, mCB, mCons, mNil, mStar, mAnd, mOr, mAndT, mOrT, mNotT, mIf, mTru, truV, mTup, mLst, ds?, ds?_map, mCall, withD, mFld, getF_o, getF_r, oNeg, oNot, oAbs, oMax, oMin, oI1, oI2, oInt, add_ii, sub_ii, lt_ii, le_ii, gt_ii, ge_ii, eq_ii, ne_ii, gN, gT_tup, gL_lst, gsC_cons, gsN_nil, List.map_cons, List.map_nil, List.length_cons, List.length_nil, List.cons_append, List.nil_append, List.append_nil, List.replicate_zero, List.replicate_succ, List.set_cons_zero, List.set_cons_succ, List.zip_cons_cons, List.zip_nil_right, List.foldl_cons, List.foldl_nil, Option.map_some, Option.map_none, Option.bind_some, Nat.reduceAdd, Nat.reduceSub, Nat.reduceEqDiff, Nat.reduceLT, Nat.reduceLeDiff, String.reduceEq, reduceCtorEq, Int.reduceLT, Int.reduceLE, Int.reduceEq, Int.reduceAdd, Int.reduceSub, Int.reduceNeg, Int.reduceMul, String.reduceBEq, decide_true, decide_false, if_true, if_false, ite_true, ite_false, Bool.false_eq_true, Bool.not_true, Bool.not_false, Bool.true_and, Bool.false_and, Bool.and_true, Bool.and_false, Bool.true_or, Bool.false_or, Bool.or_true, Bool.or_false])) (by show _ ≤ 1000000; omega) fun x hx => by
    obtain ⟨a, b, c⟩ := he x hx
    refine ⟨[some (.ref 0), some (.d (.tup r)), some (.d x)], rfl, ?_⟩
    simp only [mFun_eq', mSeq_eq, mIfS, mRet, mRetN, mAsg, mPar, mExpr, mSkip, mBrk, mCnt, mBad, mRaise, outE_ok, outT_ok, outE_er, seqO_nx, seqO_rt, seqO_er, retO_rt, retO_nx, retO_er, Res.bind_ok, Res.bind_er, Res.bind_bad, mVar_0, mVar_s, mVarI_0, mVarI_s, strip_ref, strip_non, strip_bl, strip_int, strip_str, strip_lst, strip_tup, strip_obj, strip_lck, strip_idn, mC, mBin, mUn, mTst, mCB, mCons, mNil, mStar, mAnd, mOr, mAndT, mOrT, mNotT, mIf, mTru, truV, mTup, mLst, ds?, ds?_map, mCall, withD, mFld, getF_o, getF_r, oNeg, oNot, oAbs, oMax, oMin, oI1, oI2, oInt, add_ii, sub_ii, lt_ii, le_ii, gt_ii, ge_ii, eq_ii, ne_ii, gN, gT_tup, gL_lst, gsC_cons, gsN_nil, List.map_cons, List.map_nil, List.length_cons, List.length_nil, List.cons_append, List.nil_append, List.append_nil, List.replicate_zero, List.replicate_succ, List.set_cons_zero, List.set_cons_succ, List.zip_cons_cons, List.zip_nil_right, List.foldl_cons, List.foldl_nil, Option.map_some, Option.map_none, Option.bind_some, Nat.reduceAdd, Nat.reduceSub, Nat.reduceEqDiff, Nat.reduceLT, Nat.reduceLeDiff, String.reduceEq, reduceCtorEq, Int.reduceLT, Int.reduceLE, Int.reduceEq, Int.reduceAdd, Int.reduceSub, Int.reduceNeg, Int.reduceMul, String.reduceBEq, decide_true, decide_false, if_true, if_false, ite_true, ite_false, Bool.false_eq_true, Bool.not_true, Bool.not_false, Bool.true_and, Bool.false_and, Bool.and_true, Bool.and_false, Bool.true_or, Bool.false_or, Bool.or_true, Bool.or_false, strip_ok' a.v, h0, hf, e_times_of a b hW hp c]
  have e : (r.map fun x => D.int (gr W x)) = (r.map (gr W)).map D.int := by rw [List.map_map]; rfl
  rw [e] at lc
  unfold m_WholeMachine_grown
  simp only [mFun_eq', mSeq_eq, mIfS, mRet, mRetN, mAsg, mPar, mExpr, mSkip, mBrk, mCnt, mBad, mRaise, outE_ok, outT_ok, outE_er, seqO_nx, seqO_rt, seqO_er, retO_rt, retO_nx, retO_er, Res.bind_ok, Res.bind_er, Res.bind_bad, mVar_0, mVar_s, mVarI_0, mVarI_s, strip_ref, strip_non, strip_bl, strip_int, strip_str, strip_lst, strip_tup, strip_obj, strip_lck, strip_idn, mC, mBin, mUn, mTst, mCB, mCons, mNil, mStar, mAnd, mOr, mAndT, mOrT, mNotT, mIf, mTru, truV, mTup, mLst, ds?, ds?_map, mCall, withD, mFld, getF_o, getF_r, oNeg, oNot, oAbs, oMax, oMin, oI1, oI2, oInt, add_ii, sub_ii, lt_ii, le_ii, gt_ii, ge_ii, eq_ii, ne_ii, gN, gT_tup, gL_lst, gsC_cons, gsN_nil, List.map_cons, List.map_nil, List.length_cons, List.length_nil, List.cons_append, List.nil_append, List.append_nil, List.replicate_zero, List.replicate_succ, List.set_cons_zero, List.set_cons_succ, List.zip_cons_cons, List.zip_nil_right, List.foldl_cons, List.foldl_nil, Option.map_some, Option.map_none, Option.bind_some, Nat.reduceAdd, Nat.reduceSub, Nat.reduceEqDiff, Nat.reduceLT, Nat.reduceLeDiff, String.reduceEq, reduceCtorEq, Int.reduceLT, Int.reduceLE, Int.reduceEq, Int.reduceAdd, Int.reduceSub, Int.reduceNeg, Int.reduceMul, String.reduceBEq, decide_true, decide_false, if_true, if_false, ite_true, ite_false, Bool.false_eq_true, Bool.not_true, Bool.not_false, Bool.true_and, Bool.false_and, Bool.and_true, Bool.and_false, Bool.true_or, Bool.false_or, Bool.or_true, Bool.or_false, lc]
  rfl
theorem e_growm {r : List D} {W : Nat} {fs : List (String × Va)} {st : Sto} {ρ : Ev} {i : Nat} (h0 : st[0]? = some (.obj "WholeMachine" fs)) (hf : fs.lookup "own_whole" = some (.d (.int W))) (hg : fs.lookup "grown" = none) (hr : r.length ≤ 1000) (hW : Bd 5000 W) (hp : 0 < W) (he : ∀ x ∈ r, EnD x ∧ bt x ∣ W ∧ Bd 5000 (tp x))
    (h1 : mVar 0 ρ st = .ok (.ref 0) st) (h2 : mVar i ρ st = .ok (.d (.tup r)) st) : mMeth "WholeMachine" "grown" (withD [] m_WholeMachine_grown) (mVar 0) (mCons (mVar i) mNil) ρ st = .ok (.d (rowI (r.map (gr W)))) st := by
  have ob : objOf (.ref 0) st = some ("WholeMachine", fs) := by
    unfold objOf
    simp only [h0]
  unfold mMeth
  rw [h1]
  simp only [Res.bind_ok, ob, hg, and_self, if_true]
  simp only [mFun_eq', mSeq_eq, mIfS, mRet, mRetN, mAsg, mPar, mExpr, mSkip, mBrk, mCnt, mBad, mRaise, outE_ok, outT_ok, outE_er, seqO_nx, seqO_rt, seqO_er, retO_rt, retO_nx, retO_er, Res.bind_ok, Res.bind_er, Res.bind_bad, mVar_0, mVar_s, mVarI_0, mVarI_s, strip_ref, strip_non, strip_bl, strip_int, strip_str, strip_lst, strip_tup, strip_obj, strip_lck, strip_idn, mC, mBin, mUn, mTst, mCB, mCons, mNil, mStar, mAnd, mOr, mAndT, mOrT, mNotT, mIf, mTru, truV, mTup, mLst, ds?, ds?_map, mCall, withD, mFld, getF_o, getF_r, oNeg, oNot, oAbs, oMax, oMin, oI1, oI2, oInt, add_ii, sub_ii, lt_ii, le_ii, gt_ii, ge_ii, eq_ii, ne_ii, gN, gT_tup, gL_lst, gsC_cons, gsN_nil, List.map_cons, List.map_nil, List.length_cons, List.length_nil, List.cons_append, List.nil_append, List.append_nil, List.replicate_zero, List.replicate_succ, List.set_cons_zero, List.set_cons_succ, List.zip_cons_cons, List.zip_nil_right, List.foldl_cons, List.foldl_nil, Option.map_some, Option.map_none, Option.bind_some, Nat.reduceAdd, Nat.reduceSub, Nat.reduceEqDiff, Nat.reduceLT, Nat.reduceLeDiff, String.reduceEq, reduceCtorEq, Int.reduceLT, Int.reduceLE, Int.reduceEq, Int.reduceAdd, Int.reduceSub, Int.reduceNeg, Int.reduceMul, String.reduceBEq, decide_true, decide_false, if_true, if_false, ite_true, ite_false, Bool.false_eq_true, Bool.not_true, Bool.not_false, Bool.true_and, Bool.false_and, Bool.and_true, Bool.and_false, Bool.true_or, Bool.false_or, Bool.or_true, Bool.or_false, h2, e_grown h0 hf hr hW hp he]
def wmD (W : Nat) (f : List D) (ms : List (List (List D))) (l : List D) : D := .obj "WholeMachine" [("own_whole", .int W), ("own_begin", rowI (f.map (gr W))), ("own_matrices", .lst (ms.map fun m => matI (m.map fun r => r.map (gr W)))), ("own_final", rowI (l.map (gr W)))]
def lcmL (l : List D) : Nat := l.foldl (fun w x => Nat.lcm w (bt x)) 1
theorem lcmL_dvd {N : Nat} : ∀ {l : List D} {w : Nat}, w ∣ N → (∀ x ∈ l, bt x ∣ N) → l.foldl (fun w x => Nat.lcm w (bt x)) w ∣ N
  | [], w, h, _ => h
  | x :: l, w, h, he => lcmL_dvd (l := l) (Nat.lcm_dvd h (he x (List.mem_cons_self ..))) fun y hy => he y (List.mem_cons_of_mem _ hy)
theorem dvd_lcmL : ∀ {l : List D} {w : Nat}, w ∣ l.foldl (fun w x => Nat.lcm w (bt x)) w
  | [], w => Nat.dvd_refl w
  | x :: l, w => Nat.dvd_trans (Nat.dvd_lcm_left w (bt x)) (dvd_lcmL (l := l))
theorem mem_lcmL {x : D} : ∀ {l : List D} {w : Nat}, x ∈ l → bt x ∣ l.foldl (fun w x => Nat.lcm w (bt x)) w
  | y :: l, w, h => by
    rcases List.mem_cons.mp h with rfl | h
    · exact Nat.dvd_trans (Nat.dvd_lcm_right w (bt x)) (dvd_lcmL (l := l))
    · exact mem_lcmL (l := l) h
structure Good (N : Nat) (f : List D) (ms : List (List (List D))) (l : List D) : Prop where
  len : (allE f ms l).length ≤ 1000
  ln : f.length ≤ 4 ∧ l.length ≤ 4 ∧ ms.length ≤ 4 ∧ ∀ m ∈ ms, m.length ≤ 4 ∧ ∀ r ∈ m, r.length ≤ 4
  en : ∀ x ∈ allE f ms l, EnD x ∧ bt x ∣ N ∧ Bd 5000 (tp x)
  bd : Bd 400 N
  pos : 0 < N
theorem Good.f {N : Nat} {f l : List D} {ms : List (List (List D))} (G : Good N f ms l) : ∀ x ∈ f, EnD x ∧ bt x ∣ lcmL (allE f ms l) ∧ Bd 5000 (tp x) := fun x hx => by
  have m : x ∈ allE f ms l := by unfold allE; simp [hx]
  exact ⟨(G.en x m).1, mem_lcmL m, (G.en x m).2.2⟩
theorem Good.l {N : Nat} {f l : List D} {ms : List (List (List D))} (G : Good N f ms l) : ∀ x ∈ l, EnD x ∧ bt x ∣ lcmL (allE f ms l) ∧ Bd 5000 (tp x) := fun x hx => by
  have m : x ∈ allE f ms l := by unfold allE; simp [hx]
  exact ⟨(G.en x m).1, mem_lcmL m, (G.en x m).2.2⟩
theorem Good.m {N : Nat} {f l : List D} {ms : List (List (List D))} (G : Good N f ms l) : ∀ m ∈ ms, ∀ r ∈ m, ∀ x ∈ r, EnD x ∧ bt x ∣ lcmL (allE f ms l) ∧ Bd 5000 (tp x) := fun m hm r hr x hx => by
  have m : x ∈ allE f ms l := by
    unfold allE
    rw [List.mem_append]
    exact .inr (List.mem_flatten.mpr ⟨r, List.mem_flatten.mpr ⟨m, hm, hr⟩, hx⟩)
  exact ⟨(G.en x m).1, mem_lcmL m, (G.en x m).2.2⟩
theorem Good.w {N : Nat} {f l : List D} {ms : List (List (List D))} (G : Good N f ms l) : lcmL (allE f ms l) ∣ N := lcmL_dvd (Nat.one_dvd _) fun x hx => (G.en x hx).2.1
theorem Good.w0 {N : Nat} {f l : List D} {ms : List (List (List D))} (G : Good N f ms l) : 0 < lcmL (allE f ms l) := Nat.pos_of_dvd_of_pos G.w G.pos
theorem Good.wb {N : Nat} {f l : List D} {ms : List (List (List D))} (G : Good N f ms l) : Bd 400 (lcmL (allE f ms l)) := G.bd.dvd (Int.ofNat_dvd.mpr G.w) (by have := G.pos; omega)
theorem e_whole {N : Nat} {f l : List D} {ms : List (List (List D))} (G : Good N f ms l) (st : Sto) : makeP "WholeMachine" (withD [] m_WholeMachine___init__) [.d (machD f ms l)] st = .ok (.d (wmD (lcmL (allE f ms l)) f ms l)) st := by
  generalize hW : lcmL (allE f ms l) = W
  have w0 := hW ▸ G.w0
  have wb := hW ▸ G.wb
  have wb5 : Bd 5000 (W : Int) := wb.mono (by decide)
  have gf := hW ▸ G.f
  have gl := hW ▸ G.l
  have gm := hW ▸ G.m
  have o := mFor_fold (mi := mItS (mCall (withD [] (pureF m_entries_in)) (mCons (mVar 1) mNil))) (tg := gN 6) (b := mAsg (mBin oFdiv (mBin oMul (mVar 5) (mCall (withD [] (pureF m_bottom_of)) (mCons (mVar 6) mNil))) (mCall (withD [] (pureF m_greatest_divisor)) (mCons (mVar 5) (mCons (mCall (withD [] (pureF m_bottom_of)) (mCons (mVar 6) mNil)) mNil)))) (gN 5)) (g := Va.d)
    (S := fun (w : Nat) ρ st => st = [.obj "WholeMachine" []] ∧ w ∣ N ∧ ∃ u, ρ = [some (.ref 0), some (.d (machD f ms l)), some (.d (.tup f)), some (.d (.tup (ms.map matD))), some (.d (.tup l)), some (.d (.int w)), u, none, none]) (step := fun w x => Nat.lcm w (bt x))
    (allE f ms l) 1 (ρ := [some (.ref 0), some (.d (machD f ms l)), some (.d (.tup f)), some (.d (.tup (ms.map matD))), some (.d (.tup l)), some (.d (.int 1)), none, none, none]) (st := [.obj "WholeMachine" []]) (st0 := [.obj "WholeMachine" []])
    (itS_lst (by have sm : strip (.d (machD f ms l)) = .d (machD f ms l) := rfl
                 simp only [mFun_eq', mSeq_eq, mIfS, mRet, mRetN, mAsg, mPar, mExpr, mSkip, mBrk, mCnt, mBad, mRaise, outE_ok, outT_ok, outE_er, seqO_nx, seqO_rt, seqO_er, retO_rt, retO_nx, retO_er, Res.bind_ok, Res.bind_er, Res.bind_bad, mVar_0, mVar_s, mVarI_0, mVarI_s, strip_ref, strip_non, strip_bl, strip_int, strip_str, strip_lst, strip_tup, strip_obj, strip_lck, strip_idn, mC, mBin, mUn, mTst, mCB, mCons, mNil, mStar, mAnd, mOr, mAndT, mOrT, mNotT, mIf, mTru, truV, mTup, mLst, ds?, ds?_map, mCall, withD, mFld, getF_o, getF_r, oNeg, oNot, oAbs, oMax, oMin, oI1, oI2, oInt, add_ii, sub_ii, lt_ii, le_ii, gt_ii, ge_ii, eq_ii, ne_ii, gN, gT_tup, gL_lst, gsC_cons, gsN_nil, List.map_cons, List.map_nil, List.length_cons, List.length_nil, List.cons_append, List.nil_append, List.append_nil, List.replicate_zero, List.replicate_succ, List.set_cons_zero, List.set_cons_succ, List.zip_cons_cons, List.zip_nil_right, List.foldl_cons, List.foldl_nil, Option.map_some, Option.map_none, Option.bind_some, Nat.reduceAdd, Nat.reduceSub, Nat.reduceEqDiff, Nat.reduceLT, Nat.reduceLeDiff, String.reduceEq, reduceCtorEq, Int.reduceLT, Int.reduceLE, Int.reduceEq, Int.reduceAdd, Int.reduceSub, Int.reduceNeg, Int.reduceMul, String.reduceBEq, decide_true, decide_false, if_true, if_false, ite_true, ite_false, Bool.false_eq_true, Bool.not_true, Bool.not_false, Bool.true_and, Bool.false_and, Bool.and_true, Bool.and_false, Bool.true_or, Bool.false_or, Bool.or_true, Bool.or_false, sm, e_entries_in G.len])) ⟨rfl, Nat.one_dvd _, none, rfl⟩ fun l1 x l2 e ρ st hs => by
      obtain ⟨rfl, hw, u, rfl⟩ := hs
      generalize l1.foldl (fun w x => Nat.lcm w (bt x)) 1 = w at hw ⊢
      have hx : x ∈ allE f ms l := by rw [e]; simp
      obtain ⟨ex, bx, tx⟩ := G.en x hx
      have bw : Bd 400 (w : Int) := G.bd.dvd (Int.ofNat_dvd.mpr hw) (by have := G.pos; omega)
      have bb : Bd 400 (bt x : Int) := G.bd.dvd (Int.ofNat_dvd.mpr bx) (by have := G.pos; omega)
      have p0 := ex.pos
      have e1 := fun st => e_bottom_of ex st
      have m1 := fun st => mul_ok (i := w) (j := bt x) st (bw.cmul bb (by decide))
      have eg : Int.gcd (w : Int) (bt x : Int) = Nat.gcd w (bt x) := rfl
      have g0 : 0 < Nat.gcd w (bt x) := Nat.gcd_pos_of_pos_right _ p0
      have gb : Bd 400 ((Nat.gcd w (bt x) : Nat) : Int) := bb.dvd (Int.ofNat_dvd.mpr (Nat.gcd_dvd_right ..)) (by omega)
      have d1 := fun st => fdiv_ok (i := (w : Int) * bt x) (j := ((Nat.gcd w (bt x) : Nat) : Int)) st (gb.cdiv (by omega) (by decide))
      have e2 : ((w : Int) * bt x).fdiv ((Nat.gcd w (bt x) : Nat) : Int) = ((Nat.lcm w (bt x) : Nat) : Int) := by
        rw [Int.fdiv_eq_ediv_of_nonneg _ (by omega), ← Int.natCast_mul, ← Int.natCast_ediv]
        rfl
      refine ⟨[some (.ref 0), some (.d (machD f ms l)), some (.d (.tup f)), some (.d (.tup (ms.map matD))), some (.d (.tup l)), some (.d (.int w)), some (.d x), none, none], [some (.ref 0), some (.d (machD f ms l)), some (.d (.tup f)), some (.d (.tup (ms.map matD))), some (.d (.tup l)), some (.d (.int (Nat.lcm w (bt x) : Nat))), some (.d x), none, none], _, rfl, ?_, rfl, Nat.lcm_dvd hw bx, some (.d x), rfl⟩
      simp only [mFun_eq', mSeq_eq, mIfS, mRet, mRetN, mAsg, mPar, mExpr, mSkip, mBrk, mCnt, mBad, mRaise, outE_ok, outT_ok, outE_er, seqO_nx, seqO_rt, seqO_er, retO_rt, retO_nx, retO_er, Res.bind_ok, Res.bind_er, Res.bind_bad, mVar_0, mVar_s, mVarI_0, mVarI_s, strip_ref, strip_non, strip_bl, strip_int, strip_str, strip_lst, strip_tup, strip_obj, strip_lck, strip_idn, mC, mBin, mUn, mTst, mCB, mCons, mNil, mStar, mAnd, mOr, mAndT, mOrT, mNotT, mIf, mTru, truV, mTup, mLst, ds?, ds?_map, mCall, withD, mFld, getF_o, getF_r, oNeg, oNot, oAbs, oMax, oMin, oI1, oI2, oInt, add_ii, sub_ii, lt_ii, le_ii, gt_ii, ge_ii, eq_ii, ne_ii, gN, gT_tup, gL_lst, gsC_cons, gsN_nil, List.map_cons, List.map_nil, List.length_cons, List.length_nil, List.cons_append, List.nil_append, List.append_nil, List.replicate_zero, List.replicate_succ, List.set_cons_zero, List.set_cons_succ, List.zip_cons_cons, List.zip_nil_right, List.foldl_cons, List.foldl_nil, Option.map_some, Option.map_none, Option.bind_some, Nat.reduceAdd, Nat.reduceSub, Nat.reduceEqDiff, Nat.reduceLT, Nat.reduceLeDiff, String.reduceEq, reduceCtorEq, Int.reduceLT, Int.reduceLE, Int.reduceEq, Int.reduceAdd, Int.reduceSub, Int.reduceNeg, Int.reduceMul, String.reduceBEq, decide_true, decide_false, if_true, if_false, ite_true, ite_false, Bool.false_eq_true, Bool.not_true, Bool.not_false, Bool.true_and, Bool.false_and, Bool.and_true, Bool.and_false, Bool.true_or, Bool.false_or, Bool.or_true, Bool.or_false, strip_ok' ex.v, e1, m1, g_gcd, pGcd, eg, d1, e2]
  obtain ⟨ρ1, st1, h1, rfl, _, u, rfl⟩ := o
  have hW' : (allE f ms l).foldl (fun w x => Nat.lcm w (bt x)) 1 = W := hW
  rw [hW'] at h1
  have lens := G.ln
  have z1 : ("grown" == "own_whole") = false := by decide
  have z2 : ("grown" == "own_begin") = false := by decide
  have z3 : ("grown" == "own_matrices") = false := by decide
  have y1 : ("own_begin" = "own_whole") = False := by simp
  have y2 : ("own_matrices" = "own_whole") = False := by simp
  have y3 : ("own_matrices" = "own_begin") = False := by simp
  have y4 : ("own_final" = "own_whole") = False := by simp
  have y5 : ("own_final" = "own_begin") = False := by simp
  have y6 : ("own_final" = "own_matrices") = False := by simp
  have a1 := fun ρ h1 h2 => e_growm (r := f) (W := W) (fs := [("own_whole", .d (.int W))]) (st := [.obj "WholeMachine" [("own_whole", .d (.int W))]]) (ρ := ρ) (i := 2) rfl rfl (by simp [List.lookup, z1]) (by omega) wb5 w0 gf h1 h2
  have a2 := fun ρ h1 h2 => e_growm (r := l) (W := W) (fs := [("own_whole", .d (.int W)), ("own_begin", .d (rowI (f.map (gr W)))), ("own_matrices", .d (.lst (ms.map fun m => matI (m.map fun r => r.map (gr W)))))]) (st := [.obj "WholeMachine" [("own_whole", .d (.int W)), ("own_begin", .d (rowI (f.map (gr W)))), ("own_matrices", .d (.lst (ms.map fun m => matI (m.map fun r => r.map (gr W)))))]]) (ρ := ρ) (i := 4) rfl rfl (by simp [List.lookup, z1, z2, z3]) (by omega) wb5 w0 gl h1 h2
  have st2 : Sto := [.obj "WholeMachine" [("own_whole", .d (.int W)), ("own_begin", .d (rowI (f.map (gr W))))]]
  have a3 : mLc [7] (mItS (mVar 3)) (gN 7) mYes (mLc [8] (mItS (mVar 7)) (gN 8) mYes (mMeth "WholeMachine" "grown" (withD [] m_WholeMachine_grown) (mVar 0) (mCons (mVar 8) mNil))) [some (.ref 0), some (.d (machD f ms l)), some (.d (.tup f)), some (.d (.tup (ms.map matD))), some (.d (.tup l)), some (.d (.int W)), u, none, none] [.obj "WholeMachine" [("own_whole", .d (.int W)), ("own_begin", .d (rowI (f.map (gr W))))]] = .ok (.d (.lst (ms.map fun m => matI (m.map fun r => r.map (gr W))))) [.obj "WholeMachine" [("own_whole", .d (.int W)), ("own_begin", .d (rowI (f.map (gr W))))]] := by
    refine mLc_map ms (fun m => Va.d (matD m)) _ (by rw [itS_tup (xs := ms.map matD) (st1 := [.obj "WholeMachine" [("own_whole", .d (.int W)), ("own_begin", .d (rowI (f.map (gr W))))]]) (by simp only [mFun_eq', mSeq_eq, mIfS, mRet, mRetN, mAsg, mPar, mExpr, mSkip, mBrk, mCnt, mBad, mRaise, outE_ok, outT_ok, outE_er, seqO_nx, seqO_rt, seqO_er, retO_rt, retO_nx, retO_er, Res.bind_ok, Res.bind_er, Res.bind_bad, mVar_0, mVar_s, mVarI_0, mVarI_s, strip_ref, strip_non, strip_bl, strip_int, strip_str, strip_lst, strip_tup, strip_obj, strip_lck, strip_idn, mC, mBin, mUn, mTst, mCB, mCons, mNil, mStar, mAnd, mOr, mAndT, mOrT, mNotT, mIf, mTru, truV, mTup, mLst, ds?, ds?_map, mCall, withD, mFld, getF_o, getF_r, oNeg, oNot, oAbs, oMax, oMin, oI1, oI2, oInt, add_ii, sub_ii, lt_ii, le_ii, gt_ii, ge_ii, eq_ii, ne_ii, gN, gT_tup, gL_lst, gsC_cons, gsN_nil, List.map_cons, List.map_nil, List.length_cons, List.length_nil, List.cons_append, List.nil_append, List.append_nil, List.replicate_zero, List.replicate_succ, List.set_cons_zero, List.set_cons_succ, List.zip_cons_cons, List.zip_nil_right, List.foldl_cons, List.foldl_nil, Option.map_some, Option.map_none, Option.bind_some, Nat.reduceAdd, Nat.reduceSub, Nat.reduceEqDiff, Nat.reduceLT, Nat.reduceLeDiff, String.reduceEq, reduceCtorEq, Int.reduceLT, Int.reduceLE, Int.reduceEq, Int.reduceAdd, Int.reduceSub, Int.reduceNeg, Int.reduceMul, String.reduceBEq, decide_true, decide_false, if_true, if_false, ite_true, ite_false, Bool.false_eq_true, Bool.not_true, Bool.not_false, Bool.true_and, Bool.false_and, Bool.and_true, Bool.and_false, Bool.true_or, Bool.false_or, Bool.or_true, Bool.or_false]), List.map_map]; rfl) (by show _ ≤ 1000000; omega) fun m hm => ?_
    refine ⟨[some (.ref 0), some (.d (machD f ms l)), some (.d (.tup f)), some (.d (.tup (ms.map matD))), some (.d (.tup l)), some (.d (.int W)), u, some (.d (matD m)), none], rfl, ?_⟩
    have e : (m.map fun r => rowI (r.map (gr W))) = (m.map fun r => r.map (gr W)).map rowI := by rw [List.map_map]; rfl
    show _ = Res.ok (Va.d (.lst ((m.map fun r => r.map (gr W)).map rowI))) _
    rw [← e]
    refine mLc_map m (fun r => Va.d (.tup r)) (fun r => rowI (r.map (gr W))) (by rw [itS_tup (xs := m.map D.tup) (st1 := [.obj "WholeMachine" [("own_whole", .d (.int W)), ("own_begin", .d (rowI (f.map (gr W))))]]) (by simp only [mFun_eq', mSeq_eq, mIfS, mRet, mRetN, mAsg, mPar, mExpr, mSkip, mBrk, mCnt, mBad, mRaise, outE_ok, outT_ok, outE_er, seqO_nx, seqO_rt, seqO_er, retO_rt, retO_nx, retO_er, Res.bind_ok, Res.bind_er, Res.bind_bad, mVar_0, mVar_s, mVarI_0, mVarI_s, strip_ref, strip_non, strip_bl, strip_int, strip_str, strip_lst, strip_tup, strip_obj, strip_lck, strip_idn, mC, mBin, mUn, mTst, mCB, mCons, mNil, mStar, mAnd, mOr, mAndT, mOrT, mNotT, mIf, mTru, truV, mTup, mLst, ds?, ds?_map, mCall, withD, mFld, getF_o, getF_r, oNeg, oNot, oAbs, oMax, oMin, oI1, oI2, oInt, add_ii, sub_ii, lt_ii, le_ii, gt_ii, ge_ii, eq_ii, ne_ii, gN, gT_tup, gL_lst, gsC_cons, gsN_nil, List.map_cons, List.map_nil, List.length_cons, List.length_nil, List.cons_append, List.nil_append, List.append_nil, List.replicate_zero, List.replicate_succ, List.set_cons_zero, List.set_cons_succ, List.zip_cons_cons, List.zip_nil_right, List.foldl_cons, List.foldl_nil, Option.map_some, Option.map_none, Option.bind_some, Nat.reduceAdd, Nat.reduceSub, Nat.reduceEqDiff, Nat.reduceLT, Nat.reduceLeDiff, String.reduceEq, reduceCtorEq, Int.reduceLT, Int.reduceLE, Int.reduceEq, Int.reduceAdd, Int.reduceSub, Int.reduceNeg, Int.reduceMul, String.reduceBEq, decide_true, decide_false, if_true, if_false, ite_true, ite_false, Bool.false_eq_true, Bool.not_true, Bool.not_false, Bool.true_and, Bool.false_and, Bool.and_true, Bool.and_false, Bool.true_or, Bool.false_or, Bool.or_true, Bool.or_false, matD]), List.map_map]; rfl) (by show _ ≤ 1000000; have := (lens.2.2.2 m hm).1; omega) fun r hr => ?_
    refine ⟨[some (.ref 0), some (.d (machD f ms l)), some (.d (.tup f)), some (.d (.tup (ms.map matD))), some (.d (.tup l)), some (.d (.int W)), u, some (.d (matD m)), some (.d (.tup r))], rfl, ?_⟩
    exact e_growm (r := r) (W := W) (fs := [("own_whole", .d (.int W)), ("own_begin", .d (rowI (f.map (gr W))))]) (i := 8) rfl rfl (by simp [List.lookup, z1, z2]) (by have := (lens.2.2.2 m hm).2 r hr; omega) wb5 w0 (gm m hm r hr) rfl rfl
  have run : m_WholeMachine___init__ [.ref 0, .d (machD f ms l)] [.obj "WholeMachine" []] = .ok (.d .non) [.obj "WholeMachine" [("own_whole", .d (.int W)), ("own_begin", .d (rowI (f.map (gr W)))), ("own_matrices", .d (.lst (ms.map fun m => matI (m.map fun r => r.map (gr W))))), ("own_final", .d (rowI (l.map (gr W))))]] := by
    unfold m_WholeMachine___init__
    have sm : strip (.d (machD f ms l)) = .d (machD f ms l) := rfl
    have g3 : gT 3 (gsC (gN 2) (gsC (gN 3) (gsC (gN 4) gsN))) (.d (machD f ms l)) [some (.ref 0), some (.d (machD f ms l)), none, none, none, none, none, none, none] = some [some (.ref 0), some (.d (machD f ms l)), some (.d (.tup f)), some (.d (.tup (ms.map matD))), some (.d (.tup l)), none, none, none, none] := rfl
    have a1' := a1 [some (.ref 0), some (.d (machD f ms l)), some (.d (.tup f)), some (.d (.tup (ms.map matD))), some (.d (.tup l)), some (.d (.int W)), u, none, none] rfl rfl
    have a2' := a2 [some (.ref 0), some (.d (machD f ms l)), some (.d (.tup f)), some (.d (.tup (ms.map matD))), some (.d (.tup l)), some (.d (.int W)), u, none, none] rfl rfl
    simp only [mFun_eq', mSeq_eq, mIfS, mRet, mRetN, mAsg, mPar, mExpr, mSkip, mBrk, mCnt, mBad, mRaise, outE_ok, outT_ok, outE_er, seqO_nx, seqO_rt, seqO_er, retO_rt, retO_nx, retO_er, Res.bind_ok, Res.bind_er, Res.bind_bad, mVar_0, mVar_s, mVarI_0, mVarI_s, strip_ref, strip_non, strip_bl, strip_int, strip_str, strip_lst, strip_tup, strip_obj, strip_lck, strip_idn, mC, mBin, mUn, mTst, mCB, mCons, mNil, mStar, mAnd, mOr, mAndT, mOrT, mNotT, mIf, mTru, truV, mTup, mLst, ds?, ds?_map, mCall, withD, mFld, getF_o, getF_r, oNeg, oNot, oAbs, oMax, oMin, oI1, oI2, oInt, add_ii, sub_ii, lt_ii, le_ii, gt_ii, ge_ii, eq_ii, ne_ii, gN, gT_tup, gL_lst, gsC_cons, gsN_nil, List.map_cons, List.map_nil, List.length_cons, List.length_nil, List.cons_append, List.nil_append, List.append_nil, List.replicate_zero, List.replicate_succ, List.set_cons_zero, List.set_cons_succ, List.zip_cons_cons, List.zip_nil_right, List.foldl_cons, List.foldl_nil, Option.map_some, Option.map_none, Option.bind_some, Nat.reduceAdd, Nat.reduceSub, Nat.reduceEqDiff, Nat.reduceLT, Nat.reduceLeDiff, String.reduceEq, reduceCtorEq, Int.reduceLT, Int.reduceLE, Int.reduceEq, Int.reduceAdd, Int.reduceSub, Int.reduceNeg, Int.reduceMul, String.reduceBEq, decide_true, decide_false, if_true, if_false, ite_true, ite_false, Bool.false_eq_true, Bool.not_true, Bool.not_false, Bool.true_and, Bool.false_and, Bool.and_true, Bool.and_false, Bool.true_or, Bool.false_or, Bool.or_true, Bool.or_false, sm, g3, h1, mSetF, List.getElem?_cons_zero, putS, a1', y1, y2, y3, y4, y5, y6, a3, a2']
  unfold makeP
  simp only [mFun_eq', mSeq_eq, mIfS, mRet, mRetN, mAsg, mPar, mExpr, mSkip, mBrk, mCnt, mBad, mRaise, outE_ok, outT_ok, outE_er, seqO_nx, seqO_rt, seqO_er, retO_rt, retO_nx, retO_er, Res.bind_ok, Res.bind_er, Res.bind_bad, mVar_0, mVar_s, mVarI_0, mVarI_s, strip_ref, strip_non, strip_bl, strip_int, strip_str, strip_lst, strip_tup, strip_obj, strip_lck, strip_idn, mC, mBin, mUn, mTst, mCB, mCons, mNil, mStar, mAnd, mOr, mAndT, mOrT, mNotT, mIf, mTru, truV, mTup, mLst, ds?, ds?_map, mCall, withD, mFld, getF_o, getF_r, oNeg, oNot, oAbs, oMax, oMin, oI1, oI2, oInt, add_ii, sub_ii, lt_ii, le_ii, gt_ii, ge_ii, eq_ii, ne_ii, gN, gT_tup, gL_lst, gsC_cons, gsN_nil, List.map_cons, List.map_nil, List.length_cons, List.length_nil, List.cons_append, List.nil_append, List.append_nil, List.replicate_zero, List.replicate_succ, List.set_cons_zero, List.set_cons_succ, List.zip_cons_cons, List.zip_nil_right, List.foldl_cons, List.foldl_nil, Option.map_some, Option.map_none, Option.bind_some, Nat.reduceAdd, Nat.reduceSub, Nat.reduceEqDiff, Nat.reduceLT, Nat.reduceLeDiff, String.reduceEq, reduceCtorEq, Int.reduceLT, Int.reduceLE, Int.reduceEq, Int.reduceAdd, Int.reduceSub, Int.reduceNeg, Int.reduceMul, String.reduceBEq, decide_true, decide_false, if_true, if_false, ite_true, ite_false, Bool.false_eq_true, Bool.not_true, Bool.not_false, Bool.true_and, Bool.false_and, Bool.and_true, Bool.and_false, Bool.true_or, Bool.false_or, Bool.or_true, Bool.or_false, run]
  rfl

def dotI (a b : List Int) : Int := ((a.zip b).map fun p => p.1 * p.2).sum
def stepI (r : List Int) (M : List (List Int)) : List Int := (List.range r.length).map fun j => dotI r (M.map fun line => line.getD j 0)
theorem e_dotted {a b : List Int} (hl : a.length ≤ 1000) (h : ∀ p ∈ a.zip b, CMulW p.1 p.2) (st : Sto) : pureF m_dotted [.d (rowI a), .d (rowI b)] st = .ok (.d (.int (dotI a b))) st := by
  refine pureF_d (st1 := []) rfl ?_
  have lc := mLc_map (own := [2, 3]) (mi := mItZ (mCons (mVar 0) (mCons (mVar 1) mNil))) (tg := gT 2 (gsC (gN 2) (gsC (gN 3) gsN))) (te := mBin oMul (mVar 2) (mVar 3)) (ρ := [some (.d (rowI a)), some (.d (rowI b)), none, none]) (st := []) (st1 := []) (a.zip b) (fun p => Va.d (.tup [.int p.1, .int p.2])) (fun p => .int (p.1 * p.2))
    (by rw [itZ (a := a.map D.int) (b := b.map D.int) (st1 := []) (by simp only [mFun_eq', mSeq_eq, mIfS, mRet, mRetN, mAsg, mPar, mExpr, mSkip, mBrk, mCnt, mBad, mRaise, outE_ok, outT_ok, outE_er, seqO_nx, seqO_rt, seqO_er, retO_rt, retO_nx, retO_er, Res.bind_ok, Res.bind_er, Res.bind_bad, mVar_0, mVar_s, mVarI_0, mVarI_s, strip_ref, strip_non, strip_bl, strip_int, strip_str, strip_lst, strip_tup, strip_obj, strip_lck, strip_idn, mC, mBin, mUn, mTst, mCB, mCons, mNil, mStar, mAnd, mOr, mAndT, mOrT, mNotT, mIf, mTru, truV, mTup, mLst, ds?, ds?_map, mCall, withD, mFld, getF_o, getF_r, oNeg, oNot, oAbs, oMax, oMin, oI1, oI2, oInt, add_ii, sub_ii, lt_ii, le_ii, gt_ii, ge_ii, eq_ii, ne_ii, gN, gT_tup, gL_lst, gsC_cons, gsN_nil, List.map_cons, List.map_nil, List.length_cons, List.length_nil, List.cons_append, List.nil_append, List.append_nil, List.replicate_zero, List.replicate_succ, List.set_cons_zero, List.set_cons_succ, List.zip_cons_cons, List.zip_nil_right, List.foldl_cons, List.foldl_nil, Option.map_some, Option.map_none, Option.bind_some, Nat.reduceAdd, Nat.reduceSub, Nat.reduceEqDiff, Nat.reduceLT, Nat.reduceLeDiff, String.reduceEq, reduceCtorEq, Int.reduceLT, Int.reduceLE, Int.reduceEq, Int.reduceAdd, Int.reduceSub, Int.reduceNeg, Int.reduceMul, String.reduceBEq, decide_true, decide_false, if_true, if_false, ite_true, ite_false, Bool.false_eq_true, Bool.not_true, Bool.not_false, Bool.true_and, Bool.false_and, Bool.and_true, Bool.and_false, Bool.true_or, Bool.false_or, Bool.or_true, Bool.or_false, rowI]), List.zip_map, List.map_map]; rfl) (by show _ ≤ 1000000; rw [List.length_zip]; omega) fun p hp => by
      refine ⟨[some (.d (rowI a)), some (.d (rowI b)), some (.d (.int p.1)), some (.d (.int p.2))], rfl, ?_⟩
      simp only [mFun_eq', mSeq_eq, mIfS, mRet, mRetN, mAsg, mPar, mExpr, mSkip, mBrk, mCnt, mBad, mRaise, outE_ok, outT_ok, outE_er, seqO_nx, seqO_rt, seqO_er, retO_rt, retO_nx, retO_er, Res.bind_ok, Res.bind_er, Res.bind_bad, mVar_0, mVar_s, mVarI_0, mVarI_s, strip_ref, strip_non, strip_bl, strip_int, strip_str, strip_lst, strip_tup, strip_obj, strip_lck, strip_idn, mC, mBin, mUn, mTst, mCB, mCons, mNil, mStar, mAnd, mOr, mAndT, mOrT, mNotT, mIf, mTru, truV, mTup, mLst, ds?, ds?_map, mCall, withD, mFld, getF_o, getF_r, oNeg, oNot, oAbs, oMax, oMin, oI1, oI2, oInt, add_ii, sub_ii, lt_ii, le_ii, gt_ii, ge_ii, eq_ii, ne_ii, gN, gT_tup, gL_lst, gsC_cons, gsN_nil, List.map_cons, List.map_nil, List.length_cons, List.length_nil, List.cons_append, List.nil_append, List.append_nil, List.replicate_zero, List.replicate_succ, List.set_cons_zero, List.set_cons_succ, List.zip_cons_cons, List.zip_nil_right, List.foldl_cons, List.foldl_nil, Option.map_some, Option.map_none, Option.bind_some, Nat.reduceAdd, Nat.reduceSub, Nat.reduceEqDiff, Nat.reduceLT, Nat.reduceLeDiff, String.reduceEq, reduceCtorEq, Int.reduceLT, Int.reduceLE, Int.reduceEq, Int.reduceAdd, Int.reduceSub, Int.reduceNeg, Int.reduceMul, String.reduceBEq, decide_true, decide_false, if_true, if_false, ite_true, ite_false, Bool.false_eq_true, Bool.not_true, Bool.not_false, Bool.true_and, Bool.false_and, Bool.and_true, Bool.and_false, Bool.true_or, Bool.false_or, Bool.or_true, Bool.or_false, mul_ok [] (h p hp)]
  unfold m_dotted
  simp only [mFun_eq', mSeq_eq, mIfS, mRet, mRetN, mAsg, mPar, mExpr, mSkip, mBrk, mCnt, mBad, mRaise, outE_ok, outT_ok, outE_er, seqO_nx, seqO_rt, seqO_er, retO_rt, retO_nx, retO_er, Res.bind_ok, Res.bind_er, Res.bind_bad, mVar_0, mVar_s, mVarI_0, mVarI_s, strip_ref, strip_non, strip_bl, strip_int, strip_str, strip_lst, strip_tup, strip_obj, strip_lck, strip_idn, mC, mBin, mUn, mTst, mCB, mCons, mNil, mStar, mAnd, mOr, mAndT, mOrT, mNotT, mIf, mTru, truV, mTup, mLst, ds?, ds?_map, mCall, withD, mFld, getF_o, getF_r, oNeg, oNot, oAbs, oMax, oMin, oI1, oI2, oInt, add_ii, sub_ii, lt_ii, le_ii, gt_ii, ge_ii, eq_ii, ne_ii, gN, gT_tup, gL_lst, gsC_cons, gsN_nil, List.map_cons, List.map_nil, List.length_cons, List.length_nil, List.cons_append, List.nil_append, List.append_nil, List.replicate_zero, List.replicate_succ, List.set_cons_zero, List.set_cons_succ, List.zip_cons_cons, List.zip_nil_right, List.foldl_cons, List.foldl_nil, Option.map_some, Option.map_none, Option.bind_some, Nat.reduceAdd, Nat.reduceSub, Nat.reduceEqDiff, Nat.reduceLT, Nat.reduceLeDiff, String.reduceEq, reduceCtorEq, Int.reduceLT, Int.reduceLE, Int.reduceEq, Int.reduceAdd, Int.reduceSub, Int.reduceNeg, Int.reduceMul, String.reduceBEq, decide_true, decide_false, if_true, if_false, ite_true, ite_false, Bool.false_eq_true, Bool.not_true, Bool.not_false, Bool.true_and, Bool.false_and, Bool.and_true, Bool.and_false, Bool.true_or, Bool.false_or, Bool.or_true, Bool.or_false, lc, sum_ints]
  rfl
theorem zip_mem {α β : Type} {a : List α} {b : List β} {p : α × β} (h : p ∈ a.zip b) : p.1 ∈ a ∧ p.2 ∈ b := by
  have := List.of_mem_zip (a := p.1) (b := p.2) h
  exact this
theorem dotI_bd {a b : List Int} {x y : Nat} (hl : a.length ≤ 4) (h1 : ∀ i ∈ a, Bd x i) (h2 : ∀ i ∈ b, Bd y i) : Bd (x + y + 2) (dotI a b) := by
  refine Bd.sum (n := 2) (by rw [List.length_map, List.length_zip]; omega) fun i hi => ?_
  obtain ⟨p, hp, rfl⟩ := List.mem_map.mp hi
  exact (h1 _ (zip_mem hp).1).mul (h2 _ (zip_mem hp).2)
theorem e_further {W : Nat} {f l : List D} {ms : List (List (List D))} {r : List Int} {k : Nat} {M : List (List Int)} {x y : Nat} (hM : (ms.map fun m => m.map fun r => r.map (gr W))[k]? = some M) (hr : r.length ≤ 4) (hm : M.length ≤ 4) (hq : ∀ line ∈ M, line.length = r.length) (h1 : ∀ i ∈ r, Bd x i) (h2 : ∀ line ∈ M, ∀ i ∈ line, Bd y i) (hb : x + y < 1000000) (st : Sto) :
    pureF m_WholeMachine_further [.d (wmD W f ms l), .d (rowI r), .d (.int k)] st = .ok (.d (rowI (stepI r M))) st := by
  refine pureF_d (st1 := []) rfl ?_
  have hk : (ms.map fun m => matI (m.map fun r => r.map (gr W)))[k]? = some (matI M) := by
    rw [List.getElem?_map] at hM ⊢
    cases z : ms[k]? with
    | none => rw [z] at hM; cases hM
    | some m => rw [z] at hM; cases hM; rfl
  have ix := ix_lst _ (k : Int) (matI M) [] (atI_nat hk)
  have lc := mLc_map (own := [4]) (mi := mItR1 (mCons (mCB oLen (mCons (mVar 1) mNil)) mNil)) (tg := gN 4) (te := mCall (withD [] (pureF m_dotted)) (mCons (mVar 1) (mCons (mLc [5] (mItS (mVar 3)) (gN 5) mYes (mBin oIx (mVar 5) (mVar 4))) mNil))) (ρ := [some (.d (wmD W f ms l)), some (.d (rowI r)), some (.d (.int k)), some (.d (matI M)), none, none]) (st := []) (st1 := []) (List.range r.length) (fun (j : Nat) => Va.d (.int (0 + j))) (fun j => .int (dotI r (M.map fun line => line.getD j 0)))
    (itR1 (n := r.length) (by
      have e : oLen [.d (rowI r)] [] = .ok (.d (.int r.length)) [] := by
        show Res.ok (Va.d (.int ((r.map D.int).length : Nat))) _ = _
        rw [List.length_map]
      have s : strip (.d (rowI r)) = .d (rowI r) := rfl
      simp only [mFun_eq', mSeq_eq, mIfS, mRet, mRetN, mAsg, mPar, mExpr, mSkip, mBrk, mCnt, mBad, mRaise, outE_ok, outT_ok, outE_er, seqO_nx, seqO_rt, seqO_er, retO_rt, retO_nx, retO_er, Res.bind_ok, Res.bind_er, Res.bind_bad, mVar_0, mVar_s, mVarI_0, mVarI_s, strip_ref, strip_non, strip_bl, strip_int, strip_str, strip_lst, strip_tup, strip_obj, strip_lck, strip_idn, mC, mBin, mUn, mTst, mCB, mCons, mNil, mStar, mAnd, mOr, mAndT, mOrT, mNotT, mIf, mTru, truV, mTup, mLst, ds?, ds?_map, mCall, withD, mFld, getF_o, getF_r, oNeg, oNot, oAbs, oMax, oMin, oI1, oI2, oInt, add_ii, sub_ii, lt_ii, le_ii, gt_ii, ge_ii, eq_ii, ne_ii, gN, gT_tup, gL_lst, gsC_cons, gsN_nil, List.map_cons, List.map_nil, List.length_cons, List.length_nil, List.cons_append, List.nil_append, List.append_nil, List.replicate_zero, List.replicate_succ, List.set_cons_zero, List.set_cons_succ, List.zip_cons_cons, List.zip_nil_right, List.foldl_cons, List.foldl_nil, Option.map_some, Option.map_none, Option.bind_some, Nat.reduceAdd, Nat.reduceSub, Nat.reduceEqDiff, Nat.reduceLT, Nat.reduceLeDiff, String.reduceEq, reduceCtorEq, Int.reduceLT, Int.reduceLE, Int.reduceEq, Int.reduceAdd, Int.reduceSub, Int.reduceNeg, Int.reduceMul, String.reduceBEq, decide_true, decide_false, if_true, if_false, ite_true, ite_false, Bool.false_eq_true, Bool.not_true, Bool.not_false, Bool.true_and, Bool.false_and, Bool.and_true, Bool.and_false, Bool.true_or, Bool.false_or, Bool.or_true, Bool.or_false, s, e]) (by omega)) (by show _ ≤ 1000000; rw [List.length_range]; omega) fun j hj => by
      have hj : j < r.length := List.mem_range.mp hj
      refine ⟨[some (.d (wmD W f ms l)), some (.d (rowI r)), some (.d (.int k)), some (.d (matI M)), some (.d (.int (0 + j))), none], rfl, ?_⟩
      have li := mLc_map (own := [5]) (mi := mItS (mVar 3)) (tg := gN 5) (te := mBin oIx (mVar 5) (mVar 4)) (ρ := [some (.d (wmD W f ms l)), some (.d (rowI r)), some (.d (.int k)), some (.d (matI M)), some (.d (.int (0 + j))), none]) (st := []) (st1 := []) M (fun line => Va.d (rowI line)) (fun line => .int (line.getD j 0)) (by rw [itS_lst (xs := M.map rowI) (st1 := []) (by simp only [mFun_eq', mSeq_eq, mIfS, mRet, mRetN, mAsg, mPar, mExpr, mSkip, mBrk, mCnt, mBad, mRaise, outE_ok, outT_ok, outE_er, seqO_nx, seqO_rt, seqO_er, retO_rt, retO_nx, retO_er, Res.bind_ok, Res.bind_er, Res.bind_bad, mVar_0, mVar_s, mVarI_0, mVarI_s, strip_ref, strip_non, strip_bl, strip_int, strip_str, strip_lst, strip_tup, strip_obj, strip_lck, strip_idn, mC, mBin, mUn, mTst, mCB, mCons, mNil, mStar, mAnd, mOr, mAndT, mOrT, mNotT, mIf, mTru, truV, mTup, mLst, ds?, ds?_map, mCall, withD, mFld, getF_o, getF_r, oNeg, oNot, oAbs, oMax, oMin, oI1, oI2, oInt, add_ii, sub_ii, lt_ii, le_ii, gt_ii, ge_ii, eq_ii, ne_ii, gN, gT_tup, gL_lst, gsC_cons, gsN_nil, List.map_cons, List.map_nil, List.length_cons, List.length_nil, List.cons_append, List.nil_append, List.append_nil, List.replicate_zero, List.replicate_succ, List.set_cons_zero, List.set_cons_succ, List.zip_cons_cons, List.zip_nil_right, List.foldl_cons, List.foldl_nil, Option.map_some, Option.map_none, Option.bind_some, Nat.reduceAdd, Nat.reduceSub, Nat.reduceEqDiff, Nat.reduceLT, Nat.reduceLeDiff, String.reduceEq, reduceCtorEq, Int.reduceLT, Int.reduceLE, Int.reduceEq, Int.reduceAdd, Int.reduceSub, Int.reduceNeg, Int.reduceMul, String.reduceBEq, decide_true, decide_false, if_true, if_false, ite_true, ite_false, Bool.false_eq_true, Bool.not_true, Bool.not_false, Bool.true_and, Bool.false_and, Bool.and_true, Bool.and_false, Bool.true_or, Bool.false_or, Bool.or_true, Bool.or_false, matI]), List.map_map]; rfl) (by show _ ≤ 1000000; omega) fun line hl => by
        refine ⟨[some (.d (wmD W f ms l)), some (.d (rowI r)), some (.d (.int k)), some (.d (matI M)), some (.d (.int (0 + j))), some (.d (rowI line))], rfl, ?_⟩
        have g : (line.map D.int)[j]? = some (.int (line.getD j 0)) := by
          rw [List.getElem?_map, List.getElem?_eq_getElem (by rw [hq line hl]; exact hj), List.getD_eq_getElem?_getD, List.getElem?_eq_getElem (by rw [hq line hl]; exact hj)]
          rfl
        have ixl := ix_lst _ (j : Int) _ [] (atI_nat g)
        have s : strip (.d (rowI line)) = .d (.lst (line.map D.int)) := rfl
        simp only [mFun_eq', mSeq_eq, mIfS, mRet, mRetN, mAsg, mPar, mExpr, mSkip, mBrk, mCnt, mBad, mRaise, outE_ok, outT_ok, outE_er, seqO_nx, seqO_rt, seqO_er, retO_rt, retO_nx, retO_er, Res.bind_ok, Res.bind_er, Res.bind_bad, mVar_0, mVar_s, mVarI_0, mVarI_s, strip_ref, strip_non, strip_bl, strip_int, strip_str, strip_lst, strip_tup, strip_obj, strip_lck, strip_idn, mC, mBin, mUn, mTst, mCB, mCons, mNil, mStar, mAnd, mOr, mAndT, mOrT, mNotT, mIf, mTru, truV, mTup, mLst, ds?, ds?_map, mCall, withD, mFld, getF_o, getF_r, oNeg, oNot, oAbs, oMax, oMin, oI1, oI2, oInt, add_ii, sub_ii, lt_ii, le_ii, gt_ii, ge_ii, eq_ii, ne_ii, gN, gT_tup, gL_lst, gsC_cons, gsN_nil, List.map_cons, List.map_nil, List.length_cons, List.length_nil, List.cons_append, List.nil_append, List.append_nil, List.replicate_zero, List.replicate_succ, List.set_cons_zero, List.set_cons_succ, List.zip_cons_cons, List.zip_nil_right, List.foldl_cons, List.foldl_nil, Option.map_some, Option.map_none, Option.bind_some, Nat.reduceAdd, Nat.reduceSub, Nat.reduceEqDiff, Nat.reduceLT, Nat.reduceLeDiff, String.reduceEq, reduceCtorEq, Int.reduceLT, Int.reduceLE, Int.reduceEq, Int.reduceAdd, Int.reduceSub, Int.reduceNeg, Int.reduceMul, String.reduceBEq, decide_true, decide_false, if_true, if_false, ite_true, ite_false, Bool.false_eq_true, Bool.not_true, Bool.not_false, Bool.true_and, Bool.false_and, Bool.and_true, Bool.and_false, Bool.true_or, Bool.false_or, Bool.or_true, Bool.or_false, s, Int.zero_add, ixl]
      have e : (M.map fun line => D.int (line.getD j 0)) = (M.map fun line => line.getD j 0).map D.int := by rw [List.map_map]; rfl
      rw [e] at li
      have dt := e_dotted (a := r) (b := M.map fun line => line.getD j 0) (by omega) (fun p hp => (h1 _ (zip_mem hp).1).cmul (b := y) (by
        obtain ⟨line, hl, e⟩ := List.mem_map.mp (zip_mem hp).2
        rw [← e, List.getD_eq_getElem?_getD, List.getElem?_eq_getElem (by rw [hq line hl]; exact hj)]
        exact h2 line hl _ (List.getElem_mem _)) hb) []
      have s : strip (.d (rowI r)) = .d (rowI r) := rfl
      have dt' : pureF m_dotted [.d (rowI r), .d (.lst ((M.map fun line => line.getD j 0).map D.int))] [] = .ok (.d (.int (dotI r (M.map fun line => line.getD j 0)))) [] := dt
      simp only [mFun_eq', mSeq_eq, mIfS, mRet, mRetN, mAsg, mPar, mExpr, mSkip, mBrk, mCnt, mBad, mRaise, outE_ok, outT_ok, outE_er, seqO_nx, seqO_rt, seqO_er, retO_rt, retO_nx, retO_er, Res.bind_ok, Res.bind_er, Res.bind_bad, mVar_0, mVar_s, mVarI_0, mVarI_s, strip_ref, strip_non, strip_bl, strip_int, strip_str, strip_lst, strip_tup, strip_obj, strip_lck, strip_idn, mC, mBin, mUn, mTst, mCB, mCons, mNil, mStar, mAnd, mOr, mAndT, mOrT, mNotT, mIf, mTru, truV, mTup, mLst, ds?, ds?_map, mCall, withD, mFld, getF_o, getF_r, oNeg, oNot, oAbs, oMax, oMin, oI1, oI2, oInt, add_ii, sub_ii, lt_ii, le_ii, gt_ii, ge_ii, eq_ii, ne_ii, gN, gT_tup, gL_lst, gsC_cons, gsN_nil, List.map_cons, List.map_nil, List.length_cons, List.length_nil, List.cons_append, List.nil_append, List.append_nil, List.replicate_zero, List.replicate_succ, List.set_cons_zero, List.set_cons_succ, List.zip_cons_cons, List.zip_nil_right, List.foldl_cons, List.foldl_nil, Option.map_some, Option.map_none, Option.bind_some, Nat.reduceAdd, Nat.reduceSub, Nat.reduceEqDiff, Nat.reduceLT, Nat.reduceLeDiff, String.reduceEq, reduceCtorEq, Int.reduceLT, Int.reduceLE, Int.reduceEq, Int.reduceAdd, Int.reduceSub, Int.reduceNeg, Int.reduceMul, String.reduceBEq, decide_true, decide_false, if_true, if_false, ite_true, ite_false, Bool.false_eq_true, Bool.not_true, Bool.not_false, Bool.true_and, Bool.false_and, Bool.and_true, Bool.and_false, Bool.true_or, Bool.false_or, Bool.or_true, Bool.or_false, s, li, dt']
  have e : ((List.range r.length).map fun j => D.int (dotI r (M.map fun line => line.getD j 0))) = (stepI r M).map D.int := by unfold stepI; rw [List.map_map]; rfl
  rw [e] at lc
  unfold m_WholeMachine_further
  have fl : ∀ st, getF "own_matrices" (.d (wmD W f ms l)) st = some (.d (.lst (ms.map fun m => matI (m.map fun r => r.map (gr W))))) := fun _ => rfl
  have s1 : strip (.d (wmD W f ms l)) = .d (wmD W f ms l) := rfl
  have fm : mFld "own_matrices" (mVar 0) [some (.d (wmD W f ms l)), some (.d (rowI r)), some (.d (.int k)), none, none, none] [] = .ok (.d (.lst (ms.map fun m => matI (m.map fun r => r.map (gr W))))) [] := rfl
  rw [mFun_eq' 3 6 _ _ _ rfl]
  unfold b_WholeMachine_further
  rw [mSeq_eq]
  have as : mAsg (mBin oIx (mFld "own_matrices" (mVar 0)) (mVar 2)) (gN 3) [some (.d (wmD W f ms l)), some (.d (rowI r)), some (.d (.int k)), none, none, none] [] = .nx [some (.d (wmD W f ms l)), some (.d (rowI r)), some (.d (.int k)), some (.d (matI M)), none, none] [] := by
    unfold mAsg mBin
    rw [fm]
    simp only [mFun_eq', mSeq_eq, mIfS, mRet, mRetN, mAsg, mPar, mExpr, mSkip, mBrk, mCnt, mBad, mRaise, outE_ok, outT_ok, outE_er, seqO_nx, seqO_rt, seqO_er, retO_rt, retO_nx, retO_er, Res.bind_ok, Res.bind_er, Res.bind_bad, mVar_0, mVar_s, mVarI_0, mVarI_s, strip_ref, strip_non, strip_bl, strip_int, strip_str, strip_lst, strip_tup, strip_obj, strip_lck, strip_idn, mC, mBin, mUn, mTst, mCB, mCons, mNil, mStar, mAnd, mOr, mAndT, mOrT, mNotT, mIf, mTru, truV, mTup, mLst, ds?, ds?_map, mCall, withD, mFld, getF_o, getF_r, oNeg, oNot, oAbs, oMax, oMin, oI1, oI2, oInt, add_ii, sub_ii, lt_ii, le_ii, gt_ii, ge_ii, eq_ii, ne_ii, gN, gT_tup, gL_lst, gsC_cons, gsN_nil, List.map_cons, List.map_nil, List.length_cons, List.length_nil, List.cons_append, List.nil_append, List.append_nil, List.replicate_zero, List.replicate_succ, List.set_cons_zero, List.set_cons_succ, List.zip_cons_cons, List.zip_nil_right, List.foldl_cons, List.foldl_nil, Option.map_some, Option.map_none, Option.bind_some, Nat.reduceAdd, Nat.reduceSub, Nat.reduceEqDiff, Nat.reduceLT, Nat.reduceLeDiff, String.reduceEq, reduceCtorEq, Int.reduceLT, Int.reduceLE, Int.reduceEq, Int.reduceAdd, Int.reduceSub, Int.reduceNeg, Int.reduceMul, String.reduceBEq, decide_true, decide_false, if_true, if_false, ite_true, ite_false, Bool.false_eq_true, Bool.not_true, Bool.not_false, Bool.true_and, Bool.false_and, Bool.and_true, Bool.and_false, Bool.true_or, Bool.false_or, Bool.or_true, Bool.or_false, ix]
  show retO (seqO (mAsg (mBin oIx (mFld "own_matrices" (mVar 0)) (mVar 2)) (gN 3) [some (.d (wmD W f ms l)), some (.d (rowI r)), some (.d (.int k)), none, none, none] []) _) = _
  rw [as]
  simp only [mFun_eq', mSeq_eq, mIfS, mRet, mRetN, mAsg, mPar, mExpr, mSkip, mBrk, mCnt, mBad, mRaise, outE_ok, outT_ok, outE_er, seqO_nx, seqO_rt, seqO_er, retO_rt, retO_nx, retO_er, Res.bind_ok, Res.bind_er, Res.bind_bad, mVar_0, mVar_s, mVarI_0, mVarI_s, strip_ref, strip_non, strip_bl, strip_int, strip_str, strip_lst, strip_tup, strip_obj, strip_lck, strip_idn, mC, mBin, mUn, mTst, mCB, mCons, mNil, mStar, mAnd, mOr, mAndT, mOrT, mNotT, mIf, mTru, truV, mTup, mLst, ds?, ds?_map, mCall, withD, mFld, getF_o, getF_r, oNeg, oNot, oAbs, oMax, oMin, oI1, oI2, oInt, add_ii, sub_ii, lt_ii, le_ii, gt_ii, ge_ii, eq_ii, ne_ii, gN, gT_tup, gL_lst, gsC_cons, gsN_nil, List.map_cons, List.map_nil, List.length_cons, List.length_nil, List.cons_append, List.nil_append, List.append_nil, List.replicate_zero, List.replicate_succ, List.set_cons_zero, List.set_cons_succ, List.zip_cons_cons, List.zip_nil_right, List.foldl_cons, List.foldl_nil, Option.map_some, Option.map_none, Option.bind_some, Nat.reduceAdd, Nat.reduceSub, Nat.reduceEqDiff, Nat.reduceLT, Nat.reduceLeDiff, String.reduceEq, reduceCtorEq, Int.reduceLT, Int.reduceLE, Int.reduceEq, Int.reduceAdd, Int.reduceSub, Int.reduceNeg, Int.reduceMul, String.reduceBEq, decide_true, decide_false, if_true, if_false, ite_true, ite_false, Bool.false_eq_true, Bool.not_true, Bool.not_false, Bool.true_and, Bool.false_and, Bool.and_true, Bool.and_false, Bool.true_or, Bool.false_or, Bool.or_true, Bool.or_false, lc]
  rfl
theorem e_worth {W : Nat} {f l : List D} {ms : List (List (List D))} {r : List Int} (hr : r.length ≤ 1000) (h : ∀ p ∈ r.zip (l.map (gr W)), CMulW p.1 p.2) (st : Sto) : pureF m_WholeMachine_worth_of [.d (wmD W f ms l), .d (rowI r)] st = .ok (.d (.int (dotI r (l.map (gr W))))) st := by
  refine pureF_d (st1 := []) rfl ?_
  have fm : mFld "own_final" (mVar 0) [some (.d (wmD W f ms l)), some (.d (rowI r))] [] = .ok (.d (rowI (l.map (gr W)))) [] := rfl
  have s : strip (.d (rowI r)) = .d (rowI r) := rfl
  unfold m_WholeMachine_worth_of
  rw [mFun_eq' 2 2 _ _ _ rfl]
  show retO (mRet (mCall (withD [] (pureF m_dotted)) (mCons (mVar 1) (mCons (mFld "own_final" (mVar 0)) mNil))) [some (.d (wmD W f ms l)), some (.d (rowI r))] []) = _
  have fl : ∀ st, getF "own_final" (.d (wmD W f ms l)) st = some (.d (rowI (l.map (gr W)))) := fun _ => rfl
  have s1 : strip (.d (wmD W f ms l)) = .d (wmD W f ms l) := rfl
  simp only [mFun_eq', mSeq_eq, mIfS, mRet, mRetN, mAsg, mPar, mExpr, mSkip, mBrk, mCnt, mBad, mRaise, outE_ok, outT_ok, outE_er, seqO_nx, seqO_rt, seqO_er, retO_rt, retO_nx, retO_er, Res.bind_ok, Res.bind_er, Res.bind_bad, mVar_0, mVar_s, mVarI_0, mVarI_s, strip_ref, strip_non, strip_bl, strip_int, strip_str, strip_lst, strip_tup, strip_obj, strip_lck, strip_idn, mC, mBin, mUn, mTst, mCB, mCons, mNil, mStar, mAnd, mOr, mAndT, mOrT, mNotT, mIf, mTru, truV, mTup, mLst, ds?, ds?_map, mCall, withD, mFld, getF_o, getF_r, oNeg, oNot, oAbs, oMax, oMin, oI1, oI2, oInt, add_ii, sub_ii, lt_ii, le_ii, gt_ii, ge_ii, eq_ii, ne_ii, gN, gT_tup, gL_lst, gsC_cons, gsN_nil, List.map_cons, List.map_nil, List.length_cons, List.length_nil, List.cons_append, List.nil_append, List.append_nil, List.replicate_zero, List.replicate_succ, List.set_cons_zero, List.set_cons_succ, List.zip_cons_cons, List.zip_nil_right, List.foldl_cons, List.foldl_nil, Option.map_some, Option.map_none, Option.bind_some, Nat.reduceAdd, Nat.reduceSub, Nat.reduceEqDiff, Nat.reduceLT, Nat.reduceLeDiff, String.reduceEq, reduceCtorEq, Int.reduceLT, Int.reduceLE, Int.reduceEq, Int.reduceAdd, Int.reduceSub, Int.reduceNeg, Int.reduceMul, String.reduceBEq, decide_true, decide_false, if_true, if_false, ite_true, ite_false, Bool.false_eq_true, Bool.not_true, Bool.not_false, Bool.true_and, Bool.false_and, Bool.and_true, Bool.and_false, Bool.true_or, Bool.false_or, Bool.or_true, Bool.or_false, s, s1, fl, e_dotted hr h]

abbrev wordD (w : List Nat) : D := .tup (w.map fun (k : Nat) => .int (k : Int))
def mats (W : Nat) (ms : List (List (List D))) : List (List (List Int)) := ms.map fun m => m.map fun r => r.map (gr W)
structure Shape (n : Nat) (f : List D) (ms : List (List (List D))) (l : List D) : Prop where
  f : f.length = n
  l : l.length = n
  m : ∀ m ∈ ms, m.length = n ∧ ∀ r ∈ m, r.length = n
theorem okN_row {r : List D} (h : ∀ x ∈ r, EnD x) (hl : r.length ≤ 4) : ∀ k, okN k (.tup r)
  | 0 => rfl
  | k + 1 => ⟨rfl, fun xs e => by cases e; exact ⟨by omega, fun y hy => by
      rcases h y hy with ⟨p, rfl⟩ | ⟨p, q, rfl, _⟩
      · cases k with
        | zero => rfl
        | succ k => exact ⟨rfl, fun xs e => by cases e⟩
      · cases k with
        | zero => rfl
        | succ k => exact ⟨rfl, fun xs e => by cases e⟩⟩⟩
theorem isRow_of {r : List D} {n : Nat} (h : ∀ x ∈ r, EnD x) (hl : r.length = n) : isRowD n (.tup r) = true := by
  show (decide ((r.length : Int) = n) && r.all isE) = true
  rw [Bool.and_eq_true]
  exact ⟨decide_eq_true (by omega), List.all_eq_true.mpr fun x hx => (h x hx).e⟩
theorem Good.okm {N n : Nat} {f l : List D} {ms : List (List (List D))} (G : Good N f ms l) (S : Shape n f ms l) : ∀ m ∈ ms, okN 2 (matD m) ∧ isMatD n (matD m) = true := fun m hm => by
  refine ⟨⟨rfl, fun xs e => ?_⟩, ?_⟩
  · cases e
    refine ⟨by rw [List.length_map]; have := (G.ln.2.2.2 m hm).1; omega, fun y hy => ?_⟩
    obtain ⟨r, hr, rfl⟩ := List.mem_map.mp hy
    exact okN_row (fun x hx => (G.m m hm r hr x hx).1) ((G.ln.2.2.2 m hm).2 r hr) 1
  · show (decide (((m.map D.tup).length : Int) = n) && (m.map D.tup).all (isRowD n)) = true
    rw [Bool.and_eq_true]
    refine ⟨decide_eq_true (by rw [List.length_map]; have := (S.m m hm).1; omega), List.all_eq_true.mpr fun y hy => ?_⟩
    obtain ⟨r, hr, rfl⟩ := List.mem_map.mp hy
    exact isRow_of (fun x hx => (G.m m hm r hr x hx).1) ((S.m m hm).2 r hr)
theorem Good.ok4 {N n : Nat} {f l : List D} {ms : List (List (List D))} (G : Good N f ms l) (S : Shape n f ms l) : okN 4 (machD f ms l) ∧ isMachD (machD f ms l) = true := by
  refine ⟨⟨rfl, fun xs e => ?_⟩, ?_⟩
  · cases e
    refine ⟨by show 3 ≤ 1000; decide, fun y hy => ?_⟩
    simp only [List.mem_cons, List.not_mem_nil, or_false] at hy
    rcases hy with rfl | rfl | rfl
    · exact okN_row (fun x hx => (G.f x hx).1) G.ln.1 3
    · refine ⟨rfl, fun xs e => ?_⟩
      cases e
      refine ⟨by rw [List.length_map]; have := G.ln; omega, fun y hy => ?_⟩
      obtain ⟨m, hm, rfl⟩ := List.mem_map.mp hy
      exact (G.okm S m hm).1
    · exact okN_row (fun x hx => (G.l x hx).1) G.ln.2.1 3
  · show (isRowD f.length (.tup f) && isRowD f.length (.tup l) && (ms.map matD).all (isMatD f.length)) = true
    rw [isRow_of (fun x hx => (G.f x hx).1) rfl, isRow_of (n := f.length) (fun x hx => (G.l x hx).1) (by rw [S.l, S.f])]
    simp only [Bool.true_and]
    refine List.all_eq_true.mpr fun y hy => ?_
    obtain ⟨m, hm, rfl⟩ := List.mem_map.mp hy
    rw [S.f]
    exact (G.okm S m hm).2
theorem bd_le0 {a : Nat} {i j c : Int} (h : Bd a j) (hc : c ≠ 0) (e : i * c = j) : Bd a i := by
  unfold Bd at *
  rw [← e, Int.natAbs_mul] at h
  have : i.natAbs * 1 ≤ i.natAbs * c.natAbs := Nat.mul_le_mul_left _ (by omega)
  omega
theorem gr_bd {W : Nat} {x : D} (hW : Bd 400 W) (h : Bd 5000 (tp x)) : Bd 5400 (gr W x) := h.mul (Nat.lt_of_le_of_lt (Nat.div_le_self ..) hW : Bd 400 ((W / bt x : Nat) : Int))
def runI (W : Nat) (ms : List (List (List D))) (w : List Nat) (r : List Int) : List Int := w.foldl (fun r k => stepI r ((mats W ms).getD k [])) r
theorem stepI_len (r : List Int) (M : List (List Int)) : (stepI r M).length = r.length := by unfold stepI; rw [List.length_map, List.length_range]
theorem e_value {N n : Nat} {f l : List D} {ms : List (List (List D))} {w : List Nat} (G : Good N f ms l) (S : Shape n f ms l) (hw : ∀ k ∈ w, k < ms.length) (hl : w.length ≤ 15) (st : Sto) :
    ∃ p q : Int, pureF m_machine_value [.d (machD f ms l), .d (wordD w)] st = .ok (.d (ratD p q)) st ∧ 0 < q ∧ Bd 200000 p ∧ Bd 200000 q ∧ p * (lcmL (allE f ms l) : Int) ^ (w.length + 2) = dotI (runI (lcmL (allE f ms l)) ms w (f.map (gr (lcmL (allE f ms l))))) (l.map (gr (lcmL (allE f ms l)))) * q := by
  have mk := fun st => e_whole G st
  have w0 := G.w0
  have wb := G.wb
  have gf := G.f
  have gl := G.l
  have gm := G.m
  generalize lcmL (allE f ms l) = W at mk w0 wb gf gl gm ⊢
  have nn : n ≤ 4 := by have := S.f; have := G.ln; omega
  obtain ⟨om, im⟩ := G.ok4 S
  have e1 := fun st => e_machine om st
  rw [im] at e1
  have ow : okN 1 (wordD w) := ⟨rfl, fun xs e => by
    cases e
    refine ⟨by rw [List.length_map]; omega, fun y hy => ?_⟩
    obtain ⟨k, _, rfl⟩ := List.mem_map.mp hy
    rfl⟩
  have iw : isWordD ms.length (wordD w) = true := by
    refine List.all_eq_true.mpr fun y hy => ?_
    obtain ⟨k, hk, rfl⟩ := List.mem_map.mp hy
    have := hw k hk
    show (decide (0 ≤ (k : Int)) && decide ((k : Int) ≤ ms.length - 1)) = true
    rw [Bool.and_eq_true]
    exact ⟨decide_eq_true (by omega), decide_eq_true (by omega)⟩
  have e2 := fun st => e_word ow ms.length st
  rw [iw] at e2
  have f0 : ∀ i ∈ f.map (gr W), Bd 6000 i := fun i hi => by
    obtain ⟨x, hx, rfl⟩ := List.mem_map.mp hi
    exact (gr_bd wb (gf x hx).2.2).mono (by decide)
  have hmk : ∀ k < ms.length, ∃ M, (mats W ms)[k]? = some M ∧ M.length = n ∧ ∀ line ∈ M, line.length = n ∧ ∀ i ∈ line, Bd 5400 i := fun k hk => by
    refine ⟨ms[k].map fun r => r.map (gr W), ?_, ?_, ?_⟩
    · unfold mats
      rw [List.getElem?_map, List.getElem?_eq_getElem hk]
      rfl
    · rw [List.length_map]
      exact (S.m _ (List.getElem_mem hk)).1
    · intro line hl
      obtain ⟨r, hr, rfl⟩ := List.mem_map.mp hl
      refine ⟨by rw [List.length_map]; exact (S.m _ (List.getElem_mem hk)).2 r hr, fun i hi => ?_⟩
      obtain ⟨x, hx, rfl⟩ := List.mem_map.mp hi
      exact gr_bd wb (gm _ (List.getElem_mem hk) r hr x hx).2.2
  have mm : ∀ st, oMul (.d (.int W)) (.d (.int W)) st = .ok (.d (.int ((W : Int) ^ 2))) st := fun st => by
    rw [mul_ok st (wb.cmul wb (by decide)), Int.pow_succ, Int.pow_succ, Int.pow_zero, Int.one_mul]
  have sw : strip (.d (wmD W f ms l)) = .d (wmD W f ms l) := rfl
  have sm : strip (.d (machD f ms l)) = .d (machD f ms l) := rfl
  have sr : ∀ r, strip (.d (rowI r)) = .d (rowI r) := fun _ => rfl
  have fw : ∀ st, getF "own_whole" (.d (wmD W f ms l)) st = some (.d (.int W)) := fun _ => rfl
  have fb : ∀ st, getF "own_begin" (.d (wmD W f ms l)) st = some (.d (rowI (f.map (gr W)))) := fun _ => rfl
  have ob : ∀ st, objOf (.d (wmD W f ms l)) st = some ("WholeMachine", [("own_whole", .d (.int W)), ("own_begin", .d (rowI (f.map (gr W)))), ("own_matrices", .d (.lst (ms.map fun m => matI (m.map fun r => r.map (gr W))))), ("own_final", .d (rowI (l.map (gr W))))]) := fun _ => rfl
  have lk1 : List.lookup "further" [("own_whole", Va.d (.int W)), ("own_begin", .d (rowI (f.map (gr W)))), ("own_matrices", .d (.lst (ms.map fun m => matI (m.map fun r => r.map (gr W))))), ("own_final", .d (rowI (l.map (gr W))))] = none := rfl
  have lk2 : List.lookup "worth_of" [("own_whole", Va.d (.int W)), ("own_begin", .d (rowI (f.map (gr W)))), ("own_matrices", .d (.lst (ms.map fun m => matI (m.map fun r => r.map (gr W))))), ("own_final", .d (rowI (l.map (gr W))))] = none := rfl
  have o := mFor_fold (mi := mItS (mVar 1)) (tg := gN 5) (b := mPar [3, 4] (mCons (mMeth "WholeMachine" "further" (withD [] (pureF m_WholeMachine_further)) (mVar 2) (mCons (mVar 3) (mCons (mVar 5) mNil))) (mCons (mBin oMul (mVar 4) (mFld "own_whole" (mVar 2))) mNil))) (g := fun (k : Nat) => Va.d (.int k))
    (S := fun (z : List Int × Nat) ρ st => st = [] ∧ z.1.length = n ∧ (∀ i ∈ z.1, Bd (6000 * (z.2 + 1)) i) ∧ ∃ u, ρ = [some (.d (machD f ms l)), some (.d (wordD w)), some (.d (wmD W f ms l)), some (.d (rowI z.1)), some (.d (.int ((W : Int) ^ (z.2 + 2)))), u]) (step := fun z k => (stepI z.1 ((mats W ms).getD k []), z.2 + 1))
    w (f.map (gr W), 0) (ρ := [some (.d (machD f ms l)), some (.d (wordD w)), some (.d (wmD W f ms l)), some (.d (rowI (f.map (gr W)))), some (.d (.int ((W : Int) ^ 2))), none]) (st := []) (st0 := [])
    (by rw [itS_tup (xs := w.map fun (k : Nat) => .int (k : Int)) (st1 := []) (by simp only [mFun_eq', mSeq_eq, mIfS, mRet, mRetN, mAsg, mPar, mExpr, mSkip, mBrk, mCnt, mBad, mRaise, outE_ok, outT_ok, outE_er, seqO_nx, seqO_rt, seqO_er, retO_rt, retO_nx, retO_er, Res.bind_ok, Res.bind_er, Res.bind_bad, mVar_0, mVar_s, mVarI_0, mVarI_s, strip_ref, strip_non, strip_bl, strip_int, strip_str, strip_lst, strip_tup, strip_obj, strip_lck, strip_idn, mC, mBin, mUn, mTst, mCB, mCons, mNil, mStar, mAnd, mOr, mAndT, mOrT, mNotT, mIf, mTru, truV, mTup, mLst, ds?, ds?_map, mCall, withD, mFld, getF_o, getF_r, oNeg, oNot, oAbs, oMax, oMin, oI1, oI2, oInt, add_ii, sub_ii, lt_ii, le_ii, gt_ii, ge_ii, eq_ii, ne_ii, gN, gT_tup, gL_lst, gsC_cons, gsN_nil, List.map_cons, List.map_nil, List.length_cons, List.length_nil, List.cons_append, List.nil_append, List.append_nil, List.replicate_zero, List.replicate_succ, List.set_cons_zero, List.set_cons_succ, List.zip_cons_cons, List.zip_nil_right, List.foldl_cons, List.foldl_nil, Option.map_some, Option.map_none, Option.bind_some, Nat.reduceAdd, Nat.reduceSub, Nat.reduceEqDiff, Nat.reduceLT, Nat.reduceLeDiff, String.reduceEq, reduceCtorEq, Int.reduceLT, Int.reduceLE, Int.reduceEq, Int.reduceAdd, Int.reduceSub, Int.reduceNeg, Int.reduceMul, String.reduceBEq, decide_true, decide_false, if_true, if_false, ite_true, ite_false, Bool.false_eq_true, Bool.not_true, Bool.not_false, Bool.true_and, Bool.false_and, Bool.and_true, Bool.and_false, Bool.true_or, Bool.false_or, Bool.or_true, Bool.or_false]), List.map_map]; rfl) ⟨rfl, by rw [List.length_map]; exact S.f, f0, none, rfl⟩ fun l1 k l2 e ρ st hs => by
      have cnt : (l1.foldl (fun (z : List Int × Nat) k => (stepI z.1 ((mats W ms).getD k []), z.2 + 1)) (f.map (gr W), 0)).2 = l1.length := by
        have : ∀ (l : List Nat) (z : List Int × Nat), (l.foldl (fun (z : List Int × Nat) k => (stepI z.1 ((mats W ms).getD k []), z.2 + 1)) z).2 = z.2 + l.length := fun l => by
          induction l with
          | nil => intro z; rfl
          | cons x l ih => intro z; rw [List.foldl_cons, ih, List.length_cons]; show z.2 + 1 + l.length = _; omega
        rw [this]
        exact Nat.zero_add _
      have hj : l1.length < 15 := by rw [e] at hl; simp only [List.length_append, List.length_cons] at hl; omega
      rw [← cnt] at hj
      generalize l1.foldl (fun (z : List Int × Nat) k => (stepI z.1 ((mats W ms).getD k []), z.2 + 1)) (f.map (gr W), 0) = z at hs hj ⊢
      obtain ⟨r, j⟩ := z
      obtain ⟨rfl, hr, hb, u, rfl⟩ := hs
      have hr : r.length = n := hr
      have hj : j < 15 := hj
      have hb : ∀ i ∈ r, Bd (6000 * (j + 1)) i := hb
      obtain ⟨M, h1, h2, h3⟩ := hmk k (hw k (by rw [e]; simp))
      have eM : (mats W ms).getD k [] = M := by rw [List.getD_eq_getElem?_getD, h1]; rfl
      have fu := fun st => e_further (W := W) (f := f) (l := l) (ms := ms) (r := r) (k := k) (M := M) (x := 6000 * (j + 1)) (y := 5400) h1 (by omega) (by omega) (fun line hl => by rw [(h3 line hl).1, hr]) hb (fun line hl => (h3 line hl).2) (by omega) st
      have wp : Bd (400 * (j + 2)) ((W : Int) ^ (j + 2)) := by
        unfold Bd
        rw [Int.natAbs_pow, Nat.pow_mul]
        exact Nat.pow_lt_pow_left wb (by omega)
      have mu := fun st => mul_ok (i := (W : Int) ^ (j + 2)) (j := W) st (wp.cmul wb (by omega))
      refine ⟨[some (.d (machD f ms l)), some (.d (wordD w)), some (.d (wmD W f ms l)), some (.d (rowI r)), some (.d (.int ((W : Int) ^ (j + 2)))), some (.d (.int k))], [some (.d (machD f ms l)), some (.d (wordD w)), some (.d (wmD W f ms l)), some (.d (rowI (stepI r M))), some (.d (.int ((W : Int) ^ (j + 1 + 2)))), some (.d (.int k))], [], rfl, ?_, rfl, ?_, ?_, some (.d (.int k)), ?_⟩
      · simp only [mFun_eq', mSeq_eq, mIfS, mRet, mRetN, mAsg, mPar, mExpr, mSkip, mBrk, mCnt, mBad, mRaise, outE_ok, outT_ok, outE_er, seqO_nx, seqO_rt, seqO_er, retO_rt, retO_nx, retO_er, Res.bind_ok, Res.bind_er, Res.bind_bad, mVar_0, mVar_s, mVarI_0, mVarI_s, strip_ref, strip_non, strip_bl, strip_int, strip_str, strip_lst, strip_tup, strip_obj, strip_lck, strip_idn, mC, mBin, mUn, mTst, mCB, mCons, mNil, mStar, mAnd, mOr, mAndT, mOrT, mNotT, mIf, mTru, truV, mTup, mLst, ds?, ds?_map, mCall, withD, mFld, getF_o, getF_r, oNeg, oNot, oAbs, oMax, oMin, oI1, oI2, oInt, add_ii, sub_ii, lt_ii, le_ii, gt_ii, ge_ii, eq_ii, ne_ii, gN, gT_tup, gL_lst, gsC_cons, gsN_nil, List.map_cons, List.map_nil, List.length_cons, List.length_nil, List.cons_append, List.nil_append, List.append_nil, List.replicate_zero, List.replicate_succ, List.set_cons_zero, List.set_cons_succ, List.zip_cons_cons, List.zip_nil_right, List.foldl_cons, List.foldl_nil, Option.map_some, Option.map_none, Option.bind_some, Nat.reduceAdd, Nat.reduceSub, Nat.reduceEqDiff, Nat.reduceLT, Nat.reduceLeDiff, String.reduceEq, reduceCtorEq, Int.reduceLT, Int.reduceLE, Int.reduceEq, Int.reduceAdd, Int.reduceSub, Int.reduceNeg, Int.reduceMul, String.reduceBEq, decide_true, decide_false, if_true, if_false, ite_true, ite_false, Bool.false_eq_true, Bool.not_true, Bool.not_false, Bool.true_and, Bool.false_and, Bool.and_true, Bool.and_false, Bool.true_or, Bool.false_or, Bool.or_true, Bool.or_false, mMeth, sw, sr, ob, lk1, and_self, fu, fw, mu]
        rw [show (W : Int) ^ (j + 1 + 2) = (W : Int) ^ (j + 2) * W from Int.pow_succ ..]
      · show (stepI r _).length = n
        rw [stepI_len, hr]
      · show ∀ i ∈ stepI r ((mats W ms).getD k []), Bd (6000 * (j + 1 + 1)) i
        rw [eM]
        intro i hi
        obtain ⟨c, hc, rfl⟩ := List.mem_map.mp hi
        have hc : c < r.length := List.mem_range.mp hc
        refine (dotI_bd (x := 6000 * (j + 1)) (y := 5400) (by omega) hb fun i hi => ?_).mono (by omega)
        obtain ⟨line, hl, rfl⟩ := List.mem_map.mp hi
        rw [List.getD_eq_getElem?_getD, List.getElem?_eq_getElem (by rw [(h3 line hl).1]; omega)]
        exact (h3 line hl).2 _ (List.getElem_mem _)
      · show _ = [some (Va.d (machD f ms l)), some (.d (wordD w)), some (.d (wmD W f ms l)), some (.d (rowI (stepI r ((mats W ms).getD k [])))), some (.d (.int ((W : Int) ^ (j + 1 + 2)))), some (.d (.int k))]
        rw [eM]
  obtain ⟨ρ1, st1, h1, rfl, hr, hb, u, rfl⟩ := o
  have fin : ∀ (l : List Nat) (z : List Int × Nat), l.foldl (fun (z : List Int × Nat) k => (stepI z.1 ((mats W ms).getD k []), z.2 + 1)) z = (runI W ms l z.1, z.2 + l.length) := fun l => by
    induction l with
    | nil => intro z; rfl
    | cons x l ih => intro z; rw [List.foldl_cons, ih, List.length_cons]; show (_, z.2 + 1 + l.length) = (_, z.2 + (l.length + 1)); rw [show z.2 + 1 + l.length = z.2 + (l.length + 1) by omega]; rfl
  rw [fin] at h1 hr hb
  simp only [Nat.zero_add] at h1 hr hb
  generalize runI W ms w (f.map (gr W)) = r at h1 hr hb ⊢
  have lb : ∀ i ∈ l.map (gr W), Bd 5400 i := fun i hi => by
    obtain ⟨x, hx, rfl⟩ := List.mem_map.mp hi
    exact gr_bd wb (gl x hx).2.2
  have wo := fun st => e_worth (W := W) (f := f) (l := l) (ms := ms) (r := r) (by omega) (fun p hp => (hb _ (zip_mem hp).1).cmul (lb _ (zip_mem hp).2) (by omega)) st
  have wp : Bd (400 * (w.length + 2)) ((W : Int) ^ (w.length + 2)) := by
    unfold Bd
    rw [Int.natAbs_pow, Nat.pow_mul]
    exact Nat.pow_lt_pow_left wb (by omega)
  have v0 : (W : Int) ^ (w.length + 2) ≠ 0 := Int.pow_ne_zero (by omega)
  generalize (W : Int) ^ (w.length + 2) = v at h1 wp v0 ⊢
  generalize ht : dotI r (l.map (gr W)) = t at wo ⊢
  have gd : (Int.gcd t v).log2 < 9000 := by
    have : Bd (400 * (w.length + 2)) ((Int.gcd t v : Nat) : Int) := wp.dvd (Int.gcd_dvd_right t v) v0
    have := this.log2
    simp only [Int.natAbs_natCast] at this
    omega
  have ra := fun st => ratio_ok (t := t) (b := v) st v0 gd
  obtain ⟨s1, s2, s3, s4, _⟩ := sgd_spec (t := t) v0
  have tb : Bd 200000 t := by
    rw [← ht]
    exact (dotI_bd (by omega) hb lb).mono (by omega)
  have g0 : sgd t v ≠ 0 := fun z => by rw [z, Int.zero_mul] at s3; exact v0 s3.symm
  refine ⟨t.fdiv (sgd t v), v.fdiv (sgd t v), ?_, s2, bd_le0 tb g0 (by rw [Int.mul_comm]; exact s4), bd_le0 (wp.mono (by omega)) g0 (by rw [Int.mul_comm]; exact s3), s1⟩
  refine pureF_d (st1 := []) rfl ?_
  have ix := ix_tup [.tup f, .tup (ms.map matD), .tup l] 1 (.tup (ms.map matD)) [] rfl
  have ix' : oIx (.d (machD f ms l)) (.d (.int 1)) [] = .ok (.d (.tup (ms.map matD))) [] := ix
  have ln : oLen [.d (.tup (ms.map matD))] [] = .ok (.d (.int ms.length)) [] := by
    show Res.ok (Va.d (.int ((ms.map matD).length : Nat))) _ = _
    rw [List.length_map]
  unfold m_machine_value
  simp only [mFun_eq', mSeq_eq, mIfS, mRet, mRetN, mAsg, mPar, mExpr, mSkip, mBrk, mCnt, mBad, mRaise, outE_ok, outT_ok, outE_er, seqO_nx, seqO_rt, seqO_er, retO_rt, retO_nx, retO_er, Res.bind_ok, Res.bind_er, Res.bind_bad, mVar_0, mVar_s, mVarI_0, mVarI_s, strip_ref, strip_non, strip_bl, strip_int, strip_str, strip_lst, strip_tup, strip_obj, strip_lck, strip_idn, mC, mBin, mUn, mTst, mCB, mCons, mNil, mStar, mAnd, mOr, mAndT, mOrT, mNotT, mIf, mTru, truV, mTup, mLst, ds?, ds?_map, mCall, withD, mFld, getF_o, getF_r, oNeg, oNot, oAbs, oMax, oMin, oI1, oI2, oInt, add_ii, sub_ii, lt_ii, le_ii, gt_ii, ge_ii, eq_ii, ne_ii, gN, gT_tup, gL_lst, gsC_cons, gsN_nil, List.map_cons, List.map_nil, List.length_cons, List.length_nil, List.cons_append, List.nil_append, List.append_nil, List.replicate_zero, List.replicate_succ, List.set_cons_zero, List.set_cons_succ, List.zip_cons_cons, List.zip_nil_right, List.foldl_cons, List.foldl_nil, Option.map_some, Option.map_none, Option.bind_some, Nat.reduceAdd, Nat.reduceSub, Nat.reduceEqDiff, Nat.reduceLT, Nat.reduceLeDiff, String.reduceEq, reduceCtorEq, Int.reduceLT, Int.reduceLE, Int.reduceEq, Int.reduceAdd, Int.reduceSub, Int.reduceNeg, Int.reduceMul, String.reduceBEq, decide_true, decide_false, if_true, if_false, ite_true, ite_false, Bool.false_eq_true, Bool.not_true, Bool.not_false, Bool.true_and, Bool.false_and, Bool.and_true, Bool.and_false, Bool.true_or, Bool.false_or, Bool.or_true, Bool.or_false, sm, sw, sr, e1, ix', ln, e2, mk, fw, fb, mm, h1, mMeth, ob, lk2, and_self, wo, g_ratio, ra]

def eD (e : Int × Nat) : D := .lst [.int e.1, .int e.2]
structure LS (s : Nat) (e : Int × Nat) (R : Int) : Prop where
  pos : 0 < e.2
  dvd : e.2 ∣ 12 ^ s
  eq : e.1 * 12 ^ s = R * e.2
theorem red_dvd {T S : Int} {B k K : Nat} (h : T * 12 ^ k = S * B) (hK : B ∣ 12 ^ K) (h2 : ¬((2 : Int) ∣ T ∧ 2 ∣ B)) (h3 : ¬((3 : Int) ∣ T ∧ 3 ∣ B)) : B ∣ 12 ^ k := by
  have g1 : Nat.gcd T.natAbs B ∣ 12 ^ K := Nat.dvd_trans (Nat.gcd_dvd_right ..) hK
  have key : ∀ p : Nat, (∀ d, d ∣ p → d = 1 ∨ d = p) → ¬((p : Int) ∣ T ∧ p ∣ B) → Nat.Coprime p (Nat.gcd T.natAbs B) := fun p hp hn => by
    rcases hp _ (Nat.gcd_dvd_left p (Nat.gcd T.natAbs B)) with e | e
    · exact e
    · have d : p ∣ Nat.gcd T.natAbs B := by
        have := Nat.gcd_dvd_right p (Nat.gcd T.natAbs B)
        rw [e] at this
        exact this
      exact absurd ⟨Int.ofNat_dvd_left.mpr (Nat.dvd_trans d (Nat.gcd_dvd_left ..)), Nat.dvd_trans d (Nat.gcd_dvd_right ..)⟩ hn
  have small : ∀ p d : Nat, p ≤ 3 → 2 ≤ p → d ∣ p → d = 1 ∨ d = p := fun p d h1 h2 hd => by
    have le := Nat.le_of_dvd (by omega) hd
    have p23 : p = 2 ∨ p = 3 := by omega
    rcases p23 with rfl | rfl
    · have : d = 0 ∨ d = 1 ∨ d = 2 := by omega
      rcases this with rfl | rfl | rfl
      · exact absurd hd (by decide)
      · exact .inl rfl
      · exact .inr rfl
    · have : d = 0 ∨ d = 1 ∨ d = 2 ∨ d = 3 := by omega
      rcases this with rfl | rfl | rfl | rfl
      · exact absurd hd (by decide)
      · exact .inl rfl
      · exact absurd hd (by decide)
      · exact .inr rfl
  have c2 := key 2 (fun d => small 2 d (by decide) (by decide)) h2
  have c3 := key 3 (fun d => small 3 d (by decide) (by decide)) h3
  have c12 : Nat.Coprime (2 * 2 * 3) (Nat.gcd T.natAbs B) := Nat.Coprime.mul_left (Nat.Coprime.mul_left c2 c2) c3
  have one : Nat.gcd T.natAbs B = 1 := Nat.Coprime.eq_one_of_dvd (Nat.Coprime.pow_right K c12.symm) g1
  have d : B ∣ T.natAbs * 12 ^ k := by
    refine ⟨S.natAbs, ?_⟩
    have e := congrArg Int.natAbs h
    rw [Int.natAbs_mul, Int.natAbs_mul, Int.natAbs_pow] at e
    rw [Nat.mul_comm B]
    exact e
  exact Nat.Coprime.dvd_of_dvd_mul_left (Nat.Coprime.symm one) d
/-- the slots of _law_sum -/
abbrev sE (a b l r : Option Va) (T : Int) (B : Nat) (p : Option Va) : Ev := [a, b, some (.d (.int T)), some (.d (.int B)), l, r, p]
theorem reduce_p {p : Nat} (h2 : 2 ≤ p) (h3 : p ≤ 3) {a b l r : Option Va} {st : Sto} {T : Int} {B : Nat} (hB : 0 < B) :
    ∃ (T' : Int) (B' : Nat), mWhile (mAndT (mTst (mBin oEq (mBin oMod (mCB oInt (mCons (mVar 2) mNil)) (mVar 6)) (mC (.int 0)))) (mAndT (mTst (mBin oEq (mBin oMod (mCB oInt (mCons (mVar 3) mNil)) (mVar 6)) (mC (.int 0)))) (mTst (mBin oNe (mVar 2) (mC (.int 0))))))
      (mPar [2, 3] (mCons (mBin oFdiv (mVar 2) (mVar 6)) (mCons (mBin oFdiv (mVar 3) (mVar 6)) mNil))) (sE a b l r T B (some (.d (.int p)))) st = .nx (sE a b l r T' B' (some (.d (.int p)))) st ∧ 0 < B' ∧ T' * B = T * B' ∧ B' ∣ B ∧ T' ∣ T ∧ (T' ≠ 0 → ¬((p : Int) ∣ T' ∧ p ∣ B')) := by
  have w := mWhile_inv (c := mAndT (mTst (mBin oEq (mBin oMod (mCB oInt (mCons (mVar 2) mNil)) (mVar 6)) (mC (.int 0)))) (mAndT (mTst (mBin oEq (mBin oMod (mCB oInt (mCons (mVar 3) mNil)) (mVar 6)) (mC (.int 0)))) (mTst (mBin oNe (mVar 2) (mC (.int 0))))))
    (b := mPar [2, 3] (mCons (mBin oFdiv (mVar 2) (mVar 6)) (mCons (mBin oFdiv (mVar 3) (mVar 6)) mNil)))
    (I := fun n ρ st1 => st1 = st ∧ ∃ T1 : Int, ρ = sE a b l r T1 n (some (.d (.int p))) ∧ 0 < n ∧ T1 * B = T * n ∧ n ∣ B ∧ T1 ∣ T)
    (Q := fun ρ st1 => st1 = st ∧ ∃ (T' : Int) (B' : Nat), ρ = sE a b l r T' B' (some (.d (.int p))) ∧ 0 < B' ∧ T' * B = T * B' ∧ B' ∣ B ∧ T' ∣ T ∧ (T' ≠ 0 → ¬((p : Int) ∣ T' ∧ p ∣ B'))) (n := B) (ρ := sE a b l r T B (some (.d (.int p)))) (st := st) ?_ ⟨rfl, T, rfl, hB, rfl, Nat.dvd_refl _, Int.dvd_refl _⟩
  · obtain ⟨ρ1, st1, h1, rfl, T', B', rfl, hh⟩ := w
    exact ⟨T', B', h1, hh⟩
  · rintro n ρ st1 ⟨rfl, T1, rfl, hn, h4, h5, h6⟩
    have a1 := fun st => mod_ok (i := T1) (j := p) st (by omega)
    have a2 := fun st => mod_ok (i := n) (j := p) st (by omega)
    have z1 : T1.fmod p = 0 ↔ (p : Int) ∣ T1 := ⟨fun e => Int.dvd_of_fmod_eq_zero e, fun e => Int.fmod_eq_zero_of_dvd e⟩
    have z2 : (n : Int).fmod p = 0 ↔ p ∣ n := ⟨fun e => Int.ofNat_dvd.mp (Int.dvd_of_fmod_eq_zero e), fun e => Int.fmod_eq_zero_of_dvd (Int.ofNat_dvd.mpr e)⟩
    by_cases q1 : (p : Int) ∣ T1
    · by_cases q2 : p ∣ n
      · by_cases q3 : T1 = 0
        · left
          refine ⟨?_, rfl, T1, n, rfl, hn, h4, h5, h6, fun z => absurd q3 z⟩
          have q3' : decide (T1 = 0) = true := decide_eq_true q3
          simp only [mFun_eq', mSeq_eq, mIfS, mRet, mRetN, mAsg, mPar, mExpr, mSkip, mBrk, mCnt, mBad, mRaise, outE_ok, outT_ok, outE_er, seqO_nx, seqO_rt, seqO_er, retO_rt, retO_nx, retO_er, Res.bind_ok, Res.bind_er, Res.bind_bad, mVar_0, mVar_s, mVarI_0, mVarI_s, strip_ref, strip_non, strip_bl, strip_int, strip_str, strip_lst, strip_tup, strip_obj, strip_lck, strip_idn, mC, mBin, mUn, mTst, mCB, mCons, mNil, mStar, mAnd, mOr, mAndT, mOrT, mNotT, mIf, mTru, truV, mTup, mLst, ds?, ds?_map, mCall, withD, mFld, getF_o, getF_r, oNeg, oNot, oAbs, oMax, oMin, oI1, oI2, oInt, add_ii, sub_ii, lt_ii, le_ii, gt_ii, ge_ii, eq_ii, ne_ii, gN, gT_tup, gL_lst, gsC_cons, gsN_nil, List.map_cons, List.map_nil, List.length_cons, List.length_nil, List.cons_append, List.nil_append, List.append_nil, List.replicate_zero, List.replicate_succ, List.set_cons_zero, List.set_cons_succ, List.zip_cons_cons, List.zip_nil_right, List.foldl_cons, List.foldl_nil, Option.map_some, Option.map_none, Option.bind_some, Nat.reduceAdd, Nat.reduceSub, Nat.reduceEqDiff, Nat.reduceLT, Nat.reduceLeDiff, String.reduceEq, reduceCtorEq, Int.reduceLT, Int.reduceLE, Int.reduceEq, Int.reduceAdd, Int.reduceSub, Int.reduceNeg, Int.reduceMul, String.reduceBEq, decide_true, decide_false, if_true, if_false, ite_true, ite_false, Bool.false_eq_true, Bool.not_true, Bool.not_false, Bool.true_and, Bool.false_and, Bool.and_true, Bool.and_false, Bool.true_or, Bool.false_or, Bool.or_true, Bool.or_false, a1, a2, z1.mpr q1, z2.mpr q2, q3']
        · right
          obtain ⟨u, hu⟩ := q1
          obtain ⟨v, hv⟩ := q2
          have f1 := fun st => fdiv_ok (i := T1) (j := p) st (cdivx (by omega) (by omega))
          have f2 := fun st => fdiv_ok (i := n) (j := p) st (cdivx (by omega) (by omega))
          have e1 : T1.fdiv p = u := by rw [hu]; exact Int.mul_fdiv_cancel_left _ (by omega)
          have e2 : (n : Int).fdiv p = v := by rw [hv, Int.natCast_mul]; exact Int.mul_fdiv_cancel_left _ (by omega)
          have v0 : 0 < v := by
            rcases Nat.eq_zero_or_pos v with z | z
            · rw [z] at hv; omega
            · exact z
          refine ⟨st1, sE a b l r u v (some (.d (.int p))), st1, v, ?_, ?_, ?_, rfl, u, rfl, v0, ?_, Nat.dvd_trans ⟨p, by rw [hv, Nat.mul_comm]⟩ h5, Int.dvd_trans ⟨p, by rw [hu, Int.mul_comm]⟩ h6⟩
          · simp only [mFun_eq', mSeq_eq, mIfS, mRet, mRetN, mAsg, mPar, mExpr, mSkip, mBrk, mCnt, mBad, mRaise, outE_ok, outT_ok, outE_er, seqO_nx, seqO_rt, seqO_er, retO_rt, retO_nx, retO_er, Res.bind_ok, Res.bind_er, Res.bind_bad, mVar_0, mVar_s, mVarI_0, mVarI_s, strip_ref, strip_non, strip_bl, strip_int, strip_str, strip_lst, strip_tup, strip_obj, strip_lck, strip_idn, mC, mBin, mUn, mTst, mCB, mCons, mNil, mStar, mAnd, mOr, mAndT, mOrT, mNotT, mIf, mTru, truV, mTup, mLst, ds?, ds?_map, mCall, withD, mFld, getF_o, getF_r, oNeg, oNot, oAbs, oMax, oMin, oI1, oI2, oInt, add_ii, sub_ii, lt_ii, le_ii, gt_ii, ge_ii, eq_ii, ne_ii, gN, gT_tup, gL_lst, gsC_cons, gsN_nil, List.map_cons, List.map_nil, List.length_cons, List.length_nil, List.cons_append, List.nil_append, List.append_nil, List.replicate_zero, List.replicate_succ, List.set_cons_zero, List.set_cons_succ, List.zip_cons_cons, List.zip_nil_right, List.foldl_cons, List.foldl_nil, Option.map_some, Option.map_none, Option.bind_some, Nat.reduceAdd, Nat.reduceSub, Nat.reduceEqDiff, Nat.reduceLT, Nat.reduceLeDiff, String.reduceEq, reduceCtorEq, Int.reduceLT, Int.reduceLE, Int.reduceEq, Int.reduceAdd, Int.reduceSub, Int.reduceNeg, Int.reduceMul, String.reduceBEq, decide_true, decide_false, if_true, if_false, ite_true, ite_false, Bool.false_eq_true, Bool.not_true, Bool.not_false, Bool.true_and, Bool.false_and, Bool.and_true, Bool.and_false, Bool.true_or, Bool.false_or, Bool.or_true, Bool.or_false, a1, a2, z1.mpr ⟨u, hu⟩, z2.mpr ⟨v, hv⟩, q3]
          · simp only [mFun_eq', mSeq_eq, mIfS, mRet, mRetN, mAsg, mPar, mExpr, mSkip, mBrk, mCnt, mBad, mRaise, outE_ok, outT_ok, outE_er, seqO_nx, seqO_rt, seqO_er, retO_rt, retO_nx, retO_er, Res.bind_ok, Res.bind_er, Res.bind_bad, mVar_0, mVar_s, mVarI_0, mVarI_s, strip_ref, strip_non, strip_bl, strip_int, strip_str, strip_lst, strip_tup, strip_obj, strip_lck, strip_idn, mC, mBin, mUn, mTst, mCB, mCons, mNil, mStar, mAnd, mOr, mAndT, mOrT, mNotT, mIf, mTru, truV, mTup, mLst, ds?, ds?_map, mCall, withD, mFld, getF_o, getF_r, oNeg, oNot, oAbs, oMax, oMin, oI1, oI2, oInt, add_ii, sub_ii, lt_ii, le_ii, gt_ii, ge_ii, eq_ii, ne_ii, gN, gT_tup, gL_lst, gsC_cons, gsN_nil, List.map_cons, List.map_nil, List.length_cons, List.length_nil, List.cons_append, List.nil_append, List.append_nil, List.replicate_zero, List.replicate_succ, List.set_cons_zero, List.set_cons_succ, List.zip_cons_cons, List.zip_nil_right, List.foldl_cons, List.foldl_nil, Option.map_some, Option.map_none, Option.bind_some, Nat.reduceAdd, Nat.reduceSub, Nat.reduceEqDiff, Nat.reduceLT, Nat.reduceLeDiff, String.reduceEq, reduceCtorEq, Int.reduceLT, Int.reduceLE, Int.reduceEq, Int.reduceAdd, Int.reduceSub, Int.reduceNeg, Int.reduceMul, String.reduceBEq, decide_true, decide_false, if_true, if_false, ite_true, ite_false, Bool.false_eq_true, Bool.not_true, Bool.not_false, Bool.true_and, Bool.false_and, Bool.and_true, Bool.and_false, Bool.true_or, Bool.false_or, Bool.or_true, Bool.or_false, f1, f2, e1, e2]
          · rw [hv]
            have : 2 * v ≤ p * v := Nat.mul_le_mul_right v h2
            omega
          · have pz : (p : Int) ≠ 0 := by omega
            have : (p : Int) * (u * B) = p * (T * v) := by
              rw [hu, hv, Int.natCast_mul] at h4
              grind
            exact Int.eq_of_mul_eq_mul_left pz this
      · left
        refine ⟨?_, rfl, T1, n, rfl, hn, h4, h5, h6, fun _ z => q2 z.2⟩
        have zz : (n : Int).fmod p ≠ 0 := fun e => q2 (z2.mp e)
        simp only [mFun_eq', mSeq_eq, mIfS, mRet, mRetN, mAsg, mPar, mExpr, mSkip, mBrk, mCnt, mBad, mRaise, outE_ok, outT_ok, outE_er, seqO_nx, seqO_rt, seqO_er, retO_rt, retO_nx, retO_er, Res.bind_ok, Res.bind_er, Res.bind_bad, mVar_0, mVar_s, mVarI_0, mVarI_s, strip_ref, strip_non, strip_bl, strip_int, strip_str, strip_lst, strip_tup, strip_obj, strip_lck, strip_idn, mC, mBin, mUn, mTst, mCB, mCons, mNil, mStar, mAnd, mOr, mAndT, mOrT, mNotT, mIf, mTru, truV, mTup, mLst, ds?, ds?_map, mCall, withD, mFld, getF_o, getF_r, oNeg, oNot, oAbs, oMax, oMin, oI1, oI2, oInt, add_ii, sub_ii, lt_ii, le_ii, gt_ii, ge_ii, eq_ii, ne_ii, gN, gT_tup, gL_lst, gsC_cons, gsN_nil, List.map_cons, List.map_nil, List.length_cons, List.length_nil, List.cons_append, List.nil_append, List.append_nil, List.replicate_zero, List.replicate_succ, List.set_cons_zero, List.set_cons_succ, List.zip_cons_cons, List.zip_nil_right, List.foldl_cons, List.foldl_nil, Option.map_some, Option.map_none, Option.bind_some, Nat.reduceAdd, Nat.reduceSub, Nat.reduceEqDiff, Nat.reduceLT, Nat.reduceLeDiff, String.reduceEq, reduceCtorEq, Int.reduceLT, Int.reduceLE, Int.reduceEq, Int.reduceAdd, Int.reduceSub, Int.reduceNeg, Int.reduceMul, String.reduceBEq, decide_true, decide_false, if_true, if_false, ite_true, ite_false, Bool.false_eq_true, Bool.not_true, Bool.not_false, Bool.true_and, Bool.false_and, Bool.and_true, Bool.and_false, Bool.true_or, Bool.false_or, Bool.or_true, Bool.or_false, a1, a2, z1.mpr q1, zz]
    · left
      refine ⟨?_, rfl, T1, n, rfl, hn, h4, h5, h6, fun _ z => q1 z.1⟩
      have zz : T1.fmod p ≠ 0 := fun e => q1 (z1.mp e)
      simp only [mFun_eq', mSeq_eq, mIfS, mRet, mRetN, mAsg, mPar, mExpr, mSkip, mBrk, mCnt, mBad, mRaise, outE_ok, outT_ok, outE_er, seqO_nx, seqO_rt, seqO_er, retO_rt, retO_nx, retO_er, Res.bind_ok, Res.bind_er, Res.bind_bad, mVar_0, mVar_s, mVarI_0, mVarI_s, strip_ref, strip_non, strip_bl, strip_int, strip_str, strip_lst, strip_tup, strip_obj, strip_lck, strip_idn, mC, mBin, mUn, mTst, mCB, mCons, mNil, mStar, mAnd, mOr, mAndT, mOrT, mNotT, mIf, mTru, truV, mTup, mLst, ds?, ds?_map, mCall, withD, mFld, getF_o, getF_r, oNeg, oNot, oAbs, oMax, oMin, oI1, oI2, oInt, add_ii, sub_ii, lt_ii, le_ii, gt_ii, ge_ii, eq_ii, ne_ii, gN, gT_tup, gL_lst, gsC_cons, gsN_nil, List.map_cons, List.map_nil, List.length_cons, List.length_nil, List.cons_append, List.nil_append, List.append_nil, List.replicate_zero, List.replicate_succ, List.set_cons_zero, List.set_cons_succ, List.zip_cons_cons, List.zip_nil_right, List.foldl_cons, List.foldl_nil, Option.map_some, Option.map_none, Option.bind_some, Nat.reduceAdd, Nat.reduceSub, Nat.reduceEqDiff, Nat.reduceLT, Nat.reduceLeDiff, String.reduceEq, reduceCtorEq, Int.reduceLT, Int.reduceLE, Int.reduceEq, Int.reduceAdd, Int.reduceSub, Int.reduceNeg, Int.reduceMul, String.reduceBEq, decide_true, decide_false, if_true, if_false, ite_true, ite_false, Bool.false_eq_true, Bool.not_true, Bool.not_false, Bool.true_and, Bool.false_and, Bool.and_true, Bool.and_false, Bool.true_or, Bool.false_or, Bool.or_true, Bool.or_false, a1, zz]

def sc (s : Nat) (e : Int × Nat) : Int := e.1 * ((12 ^ s / e.2 : Nat) : Int)
def Ok (s : Nat) (e : Int × Nat) : Prop := 0 < e.2 ∧ e.2 ∣ 12 ^ s
theorem Ok.eq {s : Nat} {e : Int × Nat} (h : Ok s e) : e.1 * 12 ^ s = sc s e * e.2 := by
  unfold sc
  obtain ⟨c, hc⟩ := h.2
  have : (12 : Int) ^ s = ((12 ^ s : Nat) : Int) := by rw [Int.natCast_pow]; rfl
  rw [this, hc, Nat.mul_div_cancel_left _ h.1, Int.natCast_mul]
  grind
theorem Ok.uniq {s : Nat} {e : Int × Nat} {R : Int} (h : Ok s e) (q : e.1 * 12 ^ s = R * e.2) : sc s e = R := by
  have := h.eq
  rw [q] at this
  exact (Int.eq_of_mul_eq_mul_right (by have := h.1; omega) this).symm
theorem bd_le {a : Nat} {i j c : Int} (h : Bd a j) (hc : c ≠ 0) (e : i * c = j) : Bd a i := by
  unfold Bd at *
  rw [← e, Int.natAbs_mul] at h
  have : i.natAbs * 1 ≤ i.natAbs * c.natAbs := Nat.mul_le_mul_left _ (by omega)
  omega
theorem bd12 (k : Nat) : Bd (4 * k + 1) ((12 ^ k : Nat) : Int) := by
  unfold Bd
  rw [Int.natAbs_natCast, Nat.pow_succ, Nat.pow_mul]
  have : 12 ^ k ≤ (2 ^ 4) ^ k := Nat.pow_le_pow_left (by decide) k
  have := Nat.two_pow_pos (4 * k)
  rw [Nat.pow_mul] at this
  omega
theorem bd_dvd12 {k : Nat} {b : Nat} (h : b ∣ 12 ^ k) : Bd (4 * k + 1) (b : Int) := (bd12 k).dvd (Int.ofNat_dvd.mpr h) (by have := Nat.pow_pos (n := k) (by decide : 0 < 12); omega)
theorem Ok.bd1 {s : Nat} {e : Int × Nat} {a : Nat} (h : Ok s e) (hb : Bd a (sc s e)) : Bd a e.1 := by
  obtain ⟨c, hc⟩ := h.2
  refine bd_le (c := ((12 ^ s / e.2 : Nat) : Int)) hb ?_ rfl
  rw [hc, Nat.mul_div_cancel_left _ h.1]
  intro z
  have : c = 0 := by omega
  rw [this, Nat.mul_zero] at hc
  have := Nat.pow_pos (n := s) (by decide : 0 < 12)
  omega
def dotP (s : Nat) (l : List ((Int × Nat) × (Int × Nat))) : Int := (l.map fun z => sc s z.1 * sc 1 z.2).sum
theorem dotP_eq (s : Nat) (es us : List (Int × Nat)) : dotI (es.map (sc s)) (us.map (sc 1)) = dotP s (es.zip us) := by
  unfold dotI dotP
  rw [List.zip_map, List.map_map]
  rfl
theorem e_sum {s : Nat} {es us : List (Int × Nat)} (hs : s ≤ 20) (hl : es.length ≤ 4) (he : ∀ e ∈ es, Ok s e ∧ Bd 2000 (sc s e)) (hu : ∀ u ∈ us, Ok 1 u ∧ Bd 10 (sc 1 u)) (st : Sto) :
    ∃ e', pureF m_l_sum [.d (.lst (es.map eD)), .d (.lst (us.map eD))] st = .ok (.d (eD e')) st ∧ Ok (s + 1) e' ∧ sc (s + 1) e' = dotI (es.map (sc s)) (us.map (sc 1)) := by
  have hz : (es.zip us).length ≤ 4 := by rw [List.length_zip]; omega
  have app : ∀ (l a : List ((Int × Nat) × (Int × Nat))), l.foldl (fun a x => a ++ [x]) a = a ++ l := fun l => by
    induction l with
    | nil => intro a; simp
    | cons x l ih => intro a; rw [List.foldl_cons, ih, List.append_assoc]; rfl
  have o := mFor_fold (mi := mItZ (mCons (mVar 0) (mCons (mVar 1) mNil))) (tg := gT 2 (gsC (gN 4) (gsC (gN 5) gsN))) (b := mSeq (mAsg (mBin oAdd (mBin oMul (mBin oMul (mVar 2) (mBin oIx (mVar 4) (mC (.int 1)))) (mBin oIx (mVar 5) (mC (.int 1)))) (mBin oMul (mBin oMul (mBin oIx (mVar 4) (mC (.int 0))) (mBin oIx (mVar 5) (mC (.int 0)))) (mVar 3))) (gN 2))
      (mSeq (mAsg (mBin oMul (mBin oMul (mVar 3) (mBin oIx (mVar 4) (mC (.int 1)))) (mBin oIx (mVar 5) (mC (.int 1)))) (gN 3))
      (mFor (mItS (mLst (mCons (mC (.int 2)) (mCons (mC (.int 3)) mNil)))) (gN 6)
      (mWhile (mAndT (mTst (mBin oEq (mBin oMod (mCB oInt (mCons (mVar 2) mNil)) (mVar 6)) (mC (.int 0)))) (mAndT (mTst (mBin oEq (mBin oMod (mCB oInt (mCons (mVar 3) mNil)) (mVar 6)) (mC (.int 0)))) (mTst (mBin oNe (mVar 2) (mC (.int 0))))))
      (mPar [2, 3] (mCons (mBin oFdiv (mVar 2) (mVar 6)) (mCons (mBin oFdiv (mVar 3) (mVar 6)) mNil))))))) (g := fun (z : (Int × Nat) × (Int × Nat)) => Va.d (.tup [eD z.1, eD z.2]))
    (S := fun (a : List ((Int × Nat) × (Int × Nat))) ρ st => st = [] ∧ ∃ (l r p : Option Va) (T : Int) (B : Nat), ρ = sE (some (.d (.lst (es.map eD)))) (some (.d (.lst (us.map eD)))) l r T B p ∧ 0 < B ∧ B ∣ 12 ^ ((s + 1) * a.length) ∧ T * 12 ^ (s + 1) = dotP s a * B ∧ (T ≠ 0 → ¬((2 : Int) ∣ T ∧ 2 ∣ B) ∧ ¬((3 : Int) ∣ T ∧ 3 ∣ B))) (step := fun a x => a ++ [x])
    (es.zip us) [] (ρ := sE (some (.d (.lst (es.map eD)))) (some (.d (.lst (us.map eD)))) none none 0 1 none) (st := []) (st0 := [])
    (by rw [itZ (a := es.map eD) (b := us.map eD) (st1 := []) (by simp only [mFun_eq', mSeq_eq, mIfS, mRet, mRetN, mAsg, mPar, mExpr, mSkip, mBrk, mCnt, mBad, mRaise, outE_ok, outT_ok, outE_er, seqO_nx, seqO_rt, seqO_er, retO_rt, retO_nx, retO_er, Res.bind_ok, Res.bind_er, Res.bind_bad, mVar_0, mVar_s, mVarI_0, mVarI_s, strip_ref, strip_non, strip_bl, strip_int, strip_str, strip_lst, strip_tup, strip_obj, strip_lck, strip_idn, mC, mBin, mUn, mTst, mCB, mCons, mNil, mStar, mAnd, mOr, mAndT, mOrT, mNotT, mIf, mTru, truV, mTup, mLst, ds?, ds?_map, mCall, withD, mFld, getF_o, getF_r, oNeg, oNot, oAbs, oMax, oMin, oI1, oI2, oInt, add_ii, sub_ii, lt_ii, le_ii, gt_ii, ge_ii, eq_ii, ne_ii, gN, gT_tup, gL_lst, gsC_cons, gsN_nil, List.map_cons, List.map_nil, List.length_cons, List.length_nil, List.cons_append, List.nil_append, List.append_nil, List.replicate_zero, List.replicate_succ, List.set_cons_zero, List.set_cons_succ, List.zip_cons_cons, List.zip_nil_right, List.foldl_cons, List.foldl_nil, Option.map_some, Option.map_none, Option.bind_some, Nat.reduceAdd, Nat.reduceSub, Nat.reduceEqDiff, Nat.reduceLT, Nat.reduceLeDiff, String.reduceEq, reduceCtorEq, Int.reduceLT, Int.reduceLE, Int.reduceEq, Int.reduceAdd, Int.reduceSub, Int.reduceNeg, Int.reduceMul, String.reduceBEq, decide_true, decide_false, if_true, if_false, ite_true, ite_false, Bool.false_eq_true, Bool.not_true, Bool.not_false, Bool.true_and, Bool.false_and, Bool.and_true, Bool.and_false, Bool.true_or, Bool.false_or, Bool.or_true, Bool.or_false]), List.zip_map, List.map_map]; rfl) ⟨rfl, none, none, none, 0, 1, rfl, Nat.one_pos, Nat.one_dvd _, by simp [dotP], fun h => absurd rfl h⟩ fun l1 z l2 e ρ st hs => by
      rw [app, List.nil_append] at hs ⊢
      obtain ⟨rfl, l, r, p, T, B, rfl, hB, hd, hT, _⟩ := hs
      have hz' : l1.length ≤ 3 := by rw [e] at hz; simp only [List.length_append, List.length_cons] at hz; omega
      have zm : z ∈ es.zip us := by rw [e]; simp
      obtain ⟨⟨t1, b1⟩, ⟨t2, b2⟩⟩ := z
      obtain ⟨o1, x1⟩ := he _ (zip_mem zm).1
      obtain ⟨o2, x2⟩ := hu _ (zip_mem zm).2
      have y1 : Bd 2000 t1 := o1.bd1 x1
      have y2 : Bd 10 t2 := o2.bd1 x2
      have k1 : Bd 100 (b1 : Int) := (bd_dvd12 o1.2).mono (by omega)
      have k2 : Bd 100 (b2 : Int) := (bd_dvd12 o2.2).mono (by omega)
      have kB : Bd 400 (B : Int) := (bd_dvd12 hd).mono (by
        have : (s + 1) * l1.length ≤ 21 * 3 := Nat.mul_le_mul (by omega) hz'
        omega)
      have c12 : (12 : Int) ^ (s + 1) ≠ 0 := Int.pow_ne_zero (by decide)
      have dP : Bd 2012 (dotP s l1) := by
        refine Bd.sum (a := 2010) (n := 2) (by rw [List.length_map]; show _ ≤ 4; omega) fun i hi => ?_
        obtain ⟨y, hy, rfl⟩ := List.mem_map.mp hi
        have ym : y ∈ es.zip us := by rw [e]; simp [hy]
        exact (he _ (zip_mem ym).1).2.mul (hu _ (zip_mem ym).2).2
      have kT : Bd 2412 T := bd_le (dP.mul kB) c12 hT
      have m1 := fun st => mul_ok (i := T) (j := b1) st (kT.cmul k1 (by decide))
      have m2 := fun st => mul_ok (i := T * b1) (j := b2) st ((kT.mul k1).cmul k2 (by decide))
      have m3 := fun st => mul_ok (i := t1) (j := t2) st (y1.cmul y2 (by decide))
      have m4 := fun st => mul_ok (i := t1 * t2) (j := B) st ((y1.mul y2).cmul kB (by decide))
      have m5 := fun st => mul_ok (i := B) (j := b1) st (kB.cmul k1 (by decide))
      have m6 := fun st => mul_ok (i := (B : Int) * b1) (j := b2) st ((kB.mul k1).cmul k2 (by decide))
      have i1 : ∀ (e : Int × Nat) st, oIx (.d (.lst [.int e.1, .int e.2])) (.d (.int 0)) st = .ok (.d (.int e.1)) st := fun e st => ix_lst _ _ _ _ rfl
      have i2 : ∀ (e : Int × Nat) st, oIx (.d (.lst [.int e.1, .int e.2])) (.d (.int 1)) st = .ok (.d (.int e.2)) st := fun e st => ix_lst _ _ _ _ rfl
      have j1 := i1 (t1, b1)
      have j2 := i2 (t1, b1)
      have j3 := i1 (t2, b2)
      have j4 := i2 (t2, b2)
      have hB1 : 0 < B * b1 * b2 := Nat.mul_pos (Nat.mul_pos hB o1.1) o2.1
      have eB : (B : Int) * b1 * b2 = ((B * b1 * b2 : Nat) : Int) := by rw [Int.natCast_mul, Int.natCast_mul]
      obtain ⟨T2, B2, r1, r2, r3, r4, r5, r6⟩ := reduce_p (p := 2) (by decide) (by decide) (a := some (.d (.lst (es.map eD)))) (b := some (.d (.lst (us.map eD)))) (l := some (.d (eD (t1, b1)))) (r := some (.d (eD (t2, b2)))) (st := []) (T := T * b1 * b2 + t1 * t2 * B) hB1
      obtain ⟨T3, B3, q1, q2, q3, q4, q5, q6⟩ := reduce_p (p := 3) (by decide) (by decide) (a := some (.d (.lst (es.map eD)))) (b := some (.d (.lst (us.map eD)))) (l := some (.d (eD (t1, b1)))) (r := some (.d (eD (t2, b2)))) (st := []) (T := T2) r2
      refine ⟨sE (some (.d (.lst (es.map eD)))) (some (.d (.lst (us.map eD)))) (some (.d (eD (t1, b1)))) (some (.d (eD (t2, b2)))) T B p, sE (some (.d (.lst (es.map eD)))) (some (.d (.lst (us.map eD)))) (some (.d (eD (t1, b1)))) (some (.d (eD (t2, b2)))) T3 B3 (some (.d (.int 3))), [], rfl, ?_, rfl, _, _, _, T3, B3, rfl, q2, ?_, ?_, ?_⟩
      · have s1 : ∀ e, strip (.d (eD e)) = .d (.lst [.int e.1, .int e.2]) := fun _ => rfl
        have inner : ∀ p, mFor (mItS (mLst (mCons (mC (.int 2)) (mCons (mC (.int 3)) mNil)))) (gN 6)
            (mWhile (mAndT (mTst (mBin oEq (mBin oMod (mCB oInt (mCons (mVar 2) mNil)) (mVar 6)) (mC (.int 0)))) (mAndT (mTst (mBin oEq (mBin oMod (mCB oInt (mCons (mVar 3) mNil)) (mVar 6)) (mC (.int 0)))) (mTst (mBin oNe (mVar 2) (mC (.int 0))))))
            (mPar [2, 3] (mCons (mBin oFdiv (mVar 2) (mVar 6)) (mCons (mBin oFdiv (mVar 3) (mVar 6)) mNil)))) (sE (some (.d (.lst (es.map eD)))) (some (.d (.lst (us.map eD)))) (some (.d (eD (t1, b1)))) (some (.d (eD (t2, b2)))) (T * b1 * b2 + t1 * t2 * B) (B * b1 * b2) p) [] = .nx (sE (some (.d (.lst (es.map eD)))) (some (.d (.lst (us.map eD)))) (some (.d (eD (t1, b1)))) (some (.d (eD (t2, b2)))) T3 B3 (some (.d (.int 3)))) [] := fun p => by
          rw [mFor_eq (l := [.d (.int 2), .d (.int 3)]) (st0 := []) (itS_lst (xs := [.int 2, .int 3]) (by simp only [mFun_eq', mSeq_eq, mIfS, mRet, mRetN, mAsg, mPar, mExpr, mSkip, mBrk, mCnt, mBad, mRaise, outE_ok, outT_ok, outE_er, seqO_nx, seqO_rt, seqO_er, retO_rt, retO_nx, retO_er, Res.bind_ok, Res.bind_er, Res.bind_bad, mVar_0, mVar_s, mVarI_0, mVarI_s, strip_ref, strip_non, strip_bl, strip_int, strip_str, strip_lst, strip_tup, strip_obj, strip_lck, strip_idn, mC, mBin, mUn, mTst, mCB, mCons, mNil, mStar, mAnd, mOr, mAndT, mOrT, mNotT, mIf, mTru, truV, mTup, mLst, ds?, ds?_map, mCall, withD, mFld, getF_o, getF_r, oNeg, oNot, oAbs, oMax, oMin, oI1, oI2, oInt, add_ii, sub_ii, lt_ii, le_ii, gt_ii, ge_ii, eq_ii, ne_ii, gN, gT_tup, gL_lst, gsC_cons, gsN_nil, List.map_cons, List.map_nil, List.length_cons, List.length_nil, List.cons_append, List.nil_append, List.append_nil, List.replicate_zero, List.replicate_succ, List.set_cons_zero, List.set_cons_succ, List.zip_cons_cons, List.zip_nil_right, List.foldl_cons, List.foldl_nil, Option.map_some, Option.map_none, Option.bind_some, Nat.reduceAdd, Nat.reduceSub, Nat.reduceEqDiff, Nat.reduceLT, Nat.reduceLeDiff, String.reduceEq, reduceCtorEq, Int.reduceLT, Int.reduceLE, Int.reduceEq, Int.reduceAdd, Int.reduceSub, Int.reduceNeg, Int.reduceMul, String.reduceBEq, decide_true, decide_false, if_true, if_false, ite_true, ite_false, Bool.false_eq_true, Bool.not_true, Bool.not_false, Bool.true_and, Bool.false_and, Bool.and_true, Bool.and_false, Bool.true_or, Bool.false_or, Bool.or_true, Bool.or_false, cap]))]
          rw [forM_cons']
          show loopO (mWhile _ _ (sE (some (.d (.lst (es.map eD)))) (some (.d (.lst (us.map eD)))) (some (.d (eD (t1, b1)))) (some (.d (eD (t2, b2)))) (T * b1 * b2 + t1 * t2 * B) (B * b1 * b2) (some (.d (.int ((2 : Nat) : Int))))) []) _ = _
          rw [r1, loopO_nx, forM_cons']
          show loopO (mWhile _ _ (sE (some (.d (.lst (es.map eD)))) (some (.d (.lst (us.map eD)))) (some (.d (eD (t1, b1)))) (some (.d (eD (t2, b2)))) T2 B2 (some (.d (.int ((3 : Nat) : Int))))) []) _ = _
          rw [q1, loopO_nx, forM_nil']
          rfl
        have inner' := inner p
        simp only [sE] at inner' ⊢
        simp only [mFun_eq', mSeq_eq, mIfS, mRet, mRetN, mAsg, mPar, mExpr, mSkip, mBrk, mCnt, mBad, mRaise, outE_ok, outT_ok, outE_er, seqO_nx, seqO_rt, seqO_er, retO_rt, retO_nx, retO_er, Res.bind_ok, Res.bind_er, Res.bind_bad, mVar_0, mVar_s, mVarI_0, mVarI_s, strip_ref, strip_non, strip_bl, strip_int, strip_str, strip_lst, strip_tup, strip_obj, strip_lck, strip_idn, mC, mBin, mUn, mTst, mCB, mCons, mNil, mStar, mAnd, mOr, mAndT, mOrT, mNotT, mIf, mTru, truV, mTup, mLst, ds?, ds?_map, mCall, withD, mFld, getF_o, getF_r, oNeg, oNot, oAbs, oMax, oMin, oI1, oI2, oInt, add_ii, sub_ii, lt_ii, le_ii, gt_ii, ge_ii, eq_ii, ne_ii, gN, gT_tup, gL_lst, gsC_cons, gsN_nil, List.map_cons, List.map_nil, List.length_cons, List.length_nil, List.cons_append, List.nil_append, List.append_nil, List.replicate_zero, List.replicate_succ, List.set_cons_zero, List.set_cons_succ, List.zip_cons_cons, List.zip_nil_right, List.foldl_cons, List.foldl_nil, Option.map_some, Option.map_none, Option.bind_some, Nat.reduceAdd, Nat.reduceSub, Nat.reduceEqDiff, Nat.reduceLT, Nat.reduceLeDiff, String.reduceEq, reduceCtorEq, Int.reduceLT, Int.reduceLE, Int.reduceEq, Int.reduceAdd, Int.reduceSub, Int.reduceNeg, Int.reduceMul, String.reduceBEq, decide_true, decide_false, if_true, if_false, ite_true, ite_false, Bool.false_eq_true, Bool.not_true, Bool.not_false, Bool.true_and, Bool.false_and, Bool.and_true, Bool.and_false, Bool.true_or, Bool.false_or, Bool.or_true, Bool.or_false, s1, j1, j2, j3, j4, m1, m2, m3, m4, m5, m6, eB, inner']
      · rw [List.length_append, List.length_singleton, Nat.mul_succ, Nat.pow_add]
        refine Nat.dvd_trans q4 (Nat.dvd_trans r4 ?_)
        rw [Nat.mul_assoc]
        refine Nat.mul_dvd_mul hd ?_
        rw [Nat.pow_add]
        exact Nat.mul_dvd_mul o1.2 o2.2
      · have e0 : dotP s (l1 ++ [((t1, b1), (t2, b2))]) = dotP s l1 + sc s (t1, b1) * sc 1 (t2, b2) := by unfold dotP; simp
        have h1 := o1.eq
        have h2 := o2.eq
        simp only [] at h1 h2
        rw [e0]
        generalize sc s (t1, b1) = R at h1 ⊢
        generalize sc 1 (t2, b2) = M at h2 ⊢
        generalize dotP s l1 = Dl at hT ⊢
        have h1 : t1 * 12 ^ s = R * b1 := h1
        have h2 : t2 * 12 ^ 1 = M * b2 := h2
        have big : (T * b1 * b2 + t1 * t2 * B) * 12 ^ (s + 1) = (Dl + R * M) * ((B * b1 * b2 : Nat) : Int) := by
          rw [Int.natCast_mul, Int.natCast_mul]
          have e1 : (12 : Int) ^ (s + 1) = 12 ^ s * 12 := Int.pow_succ ..
          rw [e1] at hT ⊢
          generalize (12 : Int) ^ s = c at hT h1 ⊢
          have h2 : t2 * 12 = M * b2 := h2
          have a1 : (T * b1 * b2 + t1 * t2 * B) * (c * 12) = (T * (c * 12)) * b1 * b2 + (t1 * c) * (t2 * 12) * B := by grind
          rw [a1, hT, h1, h2]
          grind
        generalize hN : B * b1 * b2 = N at big r3 hB1
        have n0 : (N : Int) ≠ 0 := by omega
        have n2 : (B2 : Int) ≠ 0 := by omega
        generalize T * b1 * b2 + t1 * t2 * B = T1 at big r3
        -- T2 / B2 = T1 / N, T3 / B3 = T2 / B2
        have g1 : T2 * 12 ^ (s + 1) = (Dl + R * M) * B2 := by
          refine Int.eq_of_mul_eq_mul_right n0 ?_
          have : T2 * 12 ^ (s + 1) * N = (T2 * N) * 12 ^ (s + 1) := by grind
          rw [this, r3]
          have : T1 * B2 * 12 ^ (s + 1) = (T1 * 12 ^ (s + 1)) * B2 := by grind
          rw [this, big]
          grind
        refine Int.eq_of_mul_eq_mul_right n2 ?_
        have : T3 * 12 ^ (s + 1) * B2 = (T3 * B2) * 12 ^ (s + 1) := by grind
        rw [this, q3]
        have : T2 * B3 * 12 ^ (s + 1) = (T2 * 12 ^ (s + 1)) * B3 := by grind
        rw [this, g1]
        grind
      · intro nz
        have t2nz : T2 ≠ 0 := fun z => nz (by
          rw [z] at q3
          have : T3 * B2 = 0 := by rw [q3]; grind
          rcases Int.mul_eq_zero.mp this with h | h
          · exact h
          · omega)
        exact ⟨fun ⟨h1, h2⟩ => r6 t2nz ⟨Int.dvd_trans h1 q5, Nat.dvd_trans h2 q4⟩, q6 nz⟩
  obtain ⟨ρ1, st1, h1, rfl, l, r, p, T, B, rfl, hB, hd, hT, hr⟩ := o
  rw [app, List.nil_append] at hd hT
  rw [dotP_eq]
  have e0 : mAsg (mTup (mCons (mC (.int 0)) (mCons (mC (.int 1)) mNil))) (gT 2 (gsC (gN 2) (gsC (gN 3) gsN))) [some (.d (.lst (es.map eD))), some (.d (.lst (us.map eD))), none, none, none, none, none] [] = .nx (sE (some (.d (.lst (es.map eD)))) (some (.d (.lst (us.map eD)))) none none 0 1 none) [] := rfl
  have c12 : (12 : Int) ^ (s + 1) ≠ 0 := Int.pow_ne_zero (by decide)
  by_cases q : T = 0
  · refine ⟨(0, 1), ?_, ⟨Nat.one_pos, Nat.one_dvd _⟩, ?_⟩
    · refine pureF_d (st1 := []) rfl ?_
      unfold m_l_sum
      simp only [sE, show ((1 : Nat) : Int) = 1 from rfl] at h1
      have q' : decide (T = 0) = true := decide_eq_true q
      simp only [mFun_eq', mSeq_eq, mIfS, mRet, mRetN, mAsg, mPar, mExpr, mSkip, mBrk, mCnt, mBad, mRaise, outE_ok, outT_ok, outE_er, seqO_nx, seqO_rt, seqO_er, retO_rt, retO_nx, retO_er, Res.bind_ok, Res.bind_er, Res.bind_bad, mVar_0, mVar_s, mVarI_0, mVarI_s, strip_ref, strip_non, strip_bl, strip_int, strip_str, strip_lst, strip_tup, strip_obj, strip_lck, strip_idn, mC, mBin, mUn, mTst, mCB, mCons, mNil, mStar, mAnd, mOr, mAndT, mOrT, mNotT, mIf, mTru, truV, mTup, mLst, ds?, ds?_map, mCall, withD, mFld, getF_o, getF_r, oNeg, oNot, oAbs, oMax, oMin, oI1, oI2, oInt, add_ii, sub_ii, lt_ii, le_ii, gt_ii, ge_ii, eq_ii, ne_ii, gN, gT_tup, gL_lst, gsC_cons, gsN_nil, List.map_cons, List.map_nil, List.length_cons, List.length_nil, List.cons_append, List.nil_append, List.append_nil, List.replicate_zero, List.replicate_succ, List.set_cons_zero, List.set_cons_succ, List.zip_cons_cons, List.zip_nil_right, List.foldl_cons, List.foldl_nil, Option.map_some, Option.map_none, Option.bind_some, Nat.reduceAdd, Nat.reduceSub, Nat.reduceEqDiff, Nat.reduceLT, Nat.reduceLeDiff, String.reduceEq, reduceCtorEq, Int.reduceLT, Int.reduceLE, Int.reduceEq, Int.reduceAdd, Int.reduceSub, Int.reduceNeg, Int.reduceMul, String.reduceBEq, decide_true, decide_false, if_true, if_false, ite_true, ite_false, Bool.false_eq_true, Bool.not_true, Bool.not_false, Bool.true_and, Bool.false_and, Bool.and_true, Bool.and_false, Bool.true_or, Bool.false_or, Bool.or_true, Bool.or_false, cap, h1, q']
      rfl
    · refine Ok.uniq ⟨Nat.one_pos, Nat.one_dvd _⟩ ?_
      rw [q, Int.zero_mul] at hT
      rcases Int.mul_eq_zero.mp hT.symm with h | h
      · rw [h]; simp
      · omega
  · have hd' : B ∣ 12 ^ (s + 1) := red_dvd hT hd (hr q).1 (hr q).2
    refine ⟨(T, B), ?_, ⟨hB, hd'⟩, Ok.uniq ⟨hB, hd'⟩ hT⟩
    refine pureF_d (st1 := []) rfl ?_
    unfold m_l_sum
    simp only [sE, show ((1 : Nat) : Int) = 1 from rfl] at h1
    simp only [mFun_eq', mSeq_eq, mIfS, mRet, mRetN, mAsg, mPar, mExpr, mSkip, mBrk, mCnt, mBad, mRaise, outE_ok, outT_ok, outE_er, seqO_nx, seqO_rt, seqO_er, retO_rt, retO_nx, retO_er, Res.bind_ok, Res.bind_er, Res.bind_bad, mVar_0, mVar_s, mVarI_0, mVarI_s, strip_ref, strip_non, strip_bl, strip_int, strip_str, strip_lst, strip_tup, strip_obj, strip_lck, strip_idn, mC, mBin, mUn, mTst, mCB, mCons, mNil, mStar, mAnd, mOr, mAndT, mOrT, mNotT, mIf, mTru, truV, mTup, mLst, ds?, ds?_map, mCall, withD, mFld, getF_o, getF_r, oNeg, oNot, oAbs, oMax, oMin, oI1, oI2, oInt, add_ii, sub_ii, lt_ii, le_ii, gt_ii, ge_ii, eq_ii, ne_ii, gN, gT_tup, gL_lst, gsC_cons, gsN_nil, List.map_cons, List.map_nil, List.length_cons, List.length_nil, List.cons_append, List.nil_append, List.append_nil, List.replicate_zero, List.replicate_succ, List.set_cons_zero, List.set_cons_succ, List.zip_cons_cons, List.zip_nil_right, List.foldl_cons, List.foldl_nil, Option.map_some, Option.map_none, Option.bind_some, Nat.reduceAdd, Nat.reduceSub, Nat.reduceEqDiff, Nat.reduceLT, Nat.reduceLeDiff, String.reduceEq, reduceCtorEq, Int.reduceLT, Int.reduceLE, Int.reduceEq, Int.reduceAdd, Int.reduceSub, Int.reduceNeg, Int.reduceMul, String.reduceBEq, decide_true, decide_false, if_true, if_false, ite_true, ite_false, Bool.false_eq_true, Bool.not_true, Bool.not_false, Bool.true_and, Bool.false_and, Bool.and_true, Bool.and_false, Bool.true_or, Bool.false_or, Bool.or_true, Bool.or_false, cap, h1, q]
    rfl

abbrev rowE (r : List (Int × Nat)) : D := .lst (r.map eD)
abbrev matE (m : List (List (Int × Nat))) : D := .lst (m.map rowE)
theorem getD_mem {α : Type} {r : List α} {j : Nat} {d : α} (h : j < r.length) : r.getD j d ∈ r := by
  rw [List.getD_eq_getElem?_getD, List.getElem?_eq_getElem h]
  exact List.getElem_mem h
theorem e_row {s n : Nat} {es : List (Int × Nat)} {M : List (List (Int × Nat))} (hs : s ≤ 20) (hl : es.length = n) (hn : n ≤ 4) (he : ∀ e ∈ es, Ok s e ∧ Bd 2000 (sc s e)) (hM : M.length = n) (hm : ∀ r ∈ M, r.length = n ∧ ∀ u ∈ r, Ok 1 u ∧ Bd 10 (sc 1 u)) (st : Sto) :
    ∃ es', pureF m_l_row [.d (rowE es), .d (matE M)] st = .ok (.d (rowE es')) st ∧ es'.length = n ∧ (∀ e ∈ es', Ok (s + 1) e) ∧ es'.map (sc (s + 1)) = stepI (es.map (sc s)) (M.map fun r => r.map (sc 1)) := by
  have ex : ∀ j : Nat, ∃ e' : Int × Nat, j < n → pureF m_l_sum [.d (.lst (es.map eD)), .d (.lst ((M.map fun r => r.getD j (0, 1)).map eD))] [] = .ok (.d (eD e')) [] ∧ Ok (s + 1) e' ∧ sc (s + 1) e' = dotI (es.map (sc s)) ((M.map fun r => r.getD j (0, 1)).map (sc 1)) := fun j => by
    by_cases hj : j < n
    · obtain ⟨e', h⟩ := e_sum (s := s) (es := es) (us := M.map fun r => r.getD j (0, 1)) hs (by omega) he (fun u hu => by
        obtain ⟨r, hr, rfl⟩ := List.mem_map.mp hu
        exact (hm r hr).2 _ (getD_mem (by rw [(hm r hr).1]; exact hj))) []
      exact ⟨e', fun _ => h⟩
    · exact ⟨(0, 1), fun h => absurd h hj⟩
  obtain ⟨F, hF⟩ := Classical.axiomOfChoice ex
  refine ⟨(List.range n).map F, ?_, by rw [List.length_map, List.length_range], fun e he => ?_, ?_⟩
  · refine pureF_d (st1 := []) rfl ?_
    have lc := mLc_map (own := [2]) (mi := mItR1 (mCons (mCB oLen (mCons (mVar 0) mNil)) mNil)) (tg := gN 2) (te := mCall (withD [] (pureF m_l_sum)) (mCons (mVar 0) (mCons (mLc [3] (mItS (mVar 1)) (gN 3) mYes (mBin oIx (mVar 3) (mVar 2))) mNil))) (ρ := [some (.d (rowE es)), some (.d (matE M)), none, none]) (st := []) (st1 := []) (List.range n) (fun (j : Nat) => Va.d (.int (0 + j))) (fun j => eD (F j))
      (itR1 (n := n) (by
        have e : oLen [.d (rowE es)] [] = .ok (.d (.int n)) [] := by
          show Res.ok (Va.d (.int ((es.map eD).length : Nat))) _ = _
          rw [List.length_map, hl]
        simp only [mFun_eq', mSeq_eq, mIfS, mRet, mRetN, mAsg, mPar, mExpr, mSkip, mBrk, mCnt, mBad, mRaise, outE_ok, outT_ok, outE_er, seqO_nx, seqO_rt, seqO_er, retO_rt, retO_nx, retO_er, Res.bind_ok, Res.bind_er, Res.bind_bad, mVar_0, mVar_s, mVarI_0, mVarI_s, strip_ref, strip_non, strip_bl, strip_int, strip_str, strip_lst, strip_tup, strip_obj, strip_lck, strip_idn, mC, mBin, mUn, mTst, mCB, mCons, mNil, mStar, mAnd, mOr, mAndT, mOrT, mNotT, mIf, mTru, truV, mTup, mLst, ds?, ds?_map, mCall, withD, mFld, getF_o, getF_r, oNeg, oNot, oAbs, oMax, oMin, oI1, oI2, oInt, add_ii, sub_ii, lt_ii, le_ii, gt_ii, ge_ii, eq_ii, ne_ii, gN, gT_tup, gL_lst, gsC_cons, gsN_nil, List.map_cons, List.map_nil, List.length_cons, List.length_nil, List.cons_append, List.nil_append, List.append_nil, List.replicate_zero, List.replicate_succ, List.set_cons_zero, List.set_cons_succ, List.zip_cons_cons, List.zip_nil_right, List.foldl_cons, List.foldl_nil, Option.map_some, Option.map_none, Option.bind_some, Nat.reduceAdd, Nat.reduceSub, Nat.reduceEqDiff, Nat.reduceLT, Nat.reduceLeDiff, String.reduceEq, reduceCtorEq, Int.reduceLT, Int.reduceLE, Int.reduceEq, Int.reduceAdd, Int.reduceSub, Int.reduceNeg, Int.reduceMul, String.reduceBEq, decide_true, decide_false, if_true, if_false, ite_true, ite_false, Bool.false_eq_true, Bool.not_true, Bool.not_false, Bool.true_and, Bool.false_and, Bool.and_true, Bool.and_false, Bool.true_or, Bool.false_or, Bool.or_true, Bool.or_false, e]) (by omega)) (by show _ ≤ 1000000; rw [List.length_range]; omega) fun j hj => by
        have hj : j < n := List.mem_range.mp hj
        refine ⟨[some (.d (rowE es)), some (.d (matE M)), some (.d (.int (0 + j))), none], rfl, ?_⟩
        have li := mLc_map (own := [3]) (mi := mItS (mVar 1)) (tg := gN 3) (te := mBin oIx (mVar 3) (mVar 2)) (ρ := [some (.d (rowE es)), some (.d (matE M)), some (.d (.int (0 + j))), none]) (st := []) (st1 := []) M (fun r => Va.d (rowE r)) (fun r => eD (r.getD j (0, 1))) (by rw [itS_lst (xs := M.map rowE) (st1 := []) (by simp only [mFun_eq', mSeq_eq, mIfS, mRet, mRetN, mAsg, mPar, mExpr, mSkip, mBrk, mCnt, mBad, mRaise, outE_ok, outT_ok, outE_er, seqO_nx, seqO_rt, seqO_er, retO_rt, retO_nx, retO_er, Res.bind_ok, Res.bind_er, Res.bind_bad, mVar_0, mVar_s, mVarI_0, mVarI_s, strip_ref, strip_non, strip_bl, strip_int, strip_str, strip_lst, strip_tup, strip_obj, strip_lck, strip_idn, mC, mBin, mUn, mTst, mCB, mCons, mNil, mStar, mAnd, mOr, mAndT, mOrT, mNotT, mIf, mTru, truV, mTup, mLst, ds?, ds?_map, mCall, withD, mFld, getF_o, getF_r, oNeg, oNot, oAbs, oMax, oMin, oI1, oI2, oInt, add_ii, sub_ii, lt_ii, le_ii, gt_ii, ge_ii, eq_ii, ne_ii, gN, gT_tup, gL_lst, gsC_cons, gsN_nil, List.map_cons, List.map_nil, List.length_cons, List.length_nil, List.cons_append, List.nil_append, List.append_nil, List.replicate_zero, List.replicate_succ, List.set_cons_zero, List.set_cons_succ, List.zip_cons_cons, List.zip_nil_right, List.foldl_cons, List.foldl_nil, Option.map_some, Option.map_none, Option.bind_some, Nat.reduceAdd, Nat.reduceSub, Nat.reduceEqDiff, Nat.reduceLT, Nat.reduceLeDiff, String.reduceEq, reduceCtorEq, Int.reduceLT, Int.reduceLE, Int.reduceEq, Int.reduceAdd, Int.reduceSub, Int.reduceNeg, Int.reduceMul, String.reduceBEq, decide_true, decide_false, if_true, if_false, ite_true, ite_false, Bool.false_eq_true, Bool.not_true, Bool.not_false, Bool.true_and, Bool.false_and, Bool.and_true, Bool.and_false, Bool.true_or, Bool.false_or, Bool.or_true, Bool.or_false]), List.map_map]; rfl) (by show _ ≤ 1000000; omega) fun r hr => by
          refine ⟨[some (.d (rowE es)), some (.d (matE M)), some (.d (.int (0 + j))), some (.d (rowE r))], rfl, ?_⟩
          have hjr : j < r.length := by rw [(hm r hr).1]; exact hj
          have g : (r.map eD)[j]? = some (eD (r.getD j (0, 1))) := by
            rw [List.getElem?_map, List.getElem?_eq_getElem hjr, List.getD_eq_getElem?_getD, List.getElem?_eq_getElem hjr]
            rfl
          have ixl := ix_lst _ (j : Int) _ [] (atI_nat g)
          simp only [mFun_eq', mSeq_eq, mIfS, mRet, mRetN, mAsg, mPar, mExpr, mSkip, mBrk, mCnt, mBad, mRaise, outE_ok, outT_ok, outE_er, seqO_nx, seqO_rt, seqO_er, retO_rt, retO_nx, retO_er, Res.bind_ok, Res.bind_er, Res.bind_bad, mVar_0, mVar_s, mVarI_0, mVarI_s, strip_ref, strip_non, strip_bl, strip_int, strip_str, strip_lst, strip_tup, strip_obj, strip_lck, strip_idn, mC, mBin, mUn, mTst, mCB, mCons, mNil, mStar, mAnd, mOr, mAndT, mOrT, mNotT, mIf, mTru, truV, mTup, mLst, ds?, ds?_map, mCall, withD, mFld, getF_o, getF_r, oNeg, oNot, oAbs, oMax, oMin, oI1, oI2, oInt, add_ii, sub_ii, lt_ii, le_ii, gt_ii, ge_ii, eq_ii, ne_ii, gN, gT_tup, gL_lst, gsC_cons, gsN_nil, List.map_cons, List.map_nil, List.length_cons, List.length_nil, List.cons_append, List.nil_append, List.append_nil, List.replicate_zero, List.replicate_succ, List.set_cons_zero, List.set_cons_succ, List.zip_cons_cons, List.zip_nil_right, List.foldl_cons, List.foldl_nil, Option.map_some, Option.map_none, Option.bind_some, Nat.reduceAdd, Nat.reduceSub, Nat.reduceEqDiff, Nat.reduceLT, Nat.reduceLeDiff, String.reduceEq, reduceCtorEq, Int.reduceLT, Int.reduceLE, Int.reduceEq, Int.reduceAdd, Int.reduceSub, Int.reduceNeg, Int.reduceMul, String.reduceBEq, decide_true, decide_false, if_true, if_false, ite_true, ite_false, Bool.false_eq_true, Bool.not_true, Bool.not_false, Bool.true_and, Bool.false_and, Bool.and_true, Bool.and_false, Bool.true_or, Bool.false_or, Bool.or_true, Bool.or_false, Int.zero_add, ixl]
        have e : (M.map fun r => eD (r.getD j (0, 1))) = (M.map fun r => r.getD j (0, 1)).map eD := by rw [List.map_map]; rfl
        rw [e] at li
        simp only [mFun_eq', mSeq_eq, mIfS, mRet, mRetN, mAsg, mPar, mExpr, mSkip, mBrk, mCnt, mBad, mRaise, outE_ok, outT_ok, outE_er, seqO_nx, seqO_rt, seqO_er, retO_rt, retO_nx, retO_er, Res.bind_ok, Res.bind_er, Res.bind_bad, mVar_0, mVar_s, mVarI_0, mVarI_s, strip_ref, strip_non, strip_bl, strip_int, strip_str, strip_lst, strip_tup, strip_obj, strip_lck, strip_idn, mC, mBin, mUn, mTst, mCB, mCons, mNil, mStar, mAnd, mOr, mAndT, mOrT, mNotT, mIf, mTru, truV, mTup, mLst, ds?, ds?_map, mCall, withD, mFld, getF_o, getF_r, oNeg, oNot, oAbs, oMax, oMin, oI1, oI2, oInt, add_ii, sub_ii, lt_ii, le_ii, gt_ii, ge_ii, eq_ii, ne_ii, gN, gT_tup, gL_lst, gsC_cons, gsN_nil, List.map_cons, List.map_nil, List.length_cons, List.length_nil, List.cons_append, List.nil_append, List.append_nil, List.replicate_zero, List.replicate_succ, List.set_cons_zero, List.set_cons_succ, List.zip_cons_cons, List.zip_nil_right, List.foldl_cons, List.foldl_nil, Option.map_some, Option.map_none, Option.bind_some, Nat.reduceAdd, Nat.reduceSub, Nat.reduceEqDiff, Nat.reduceLT, Nat.reduceLeDiff, String.reduceEq, reduceCtorEq, Int.reduceLT, Int.reduceLE, Int.reduceEq, Int.reduceAdd, Int.reduceSub, Int.reduceNeg, Int.reduceMul, String.reduceBEq, decide_true, decide_false, if_true, if_false, ite_true, ite_false, Bool.false_eq_true, Bool.not_true, Bool.not_false, Bool.true_and, Bool.false_and, Bool.and_true, Bool.and_false, Bool.true_or, Bool.false_or, Bool.or_true, Bool.or_false, li, (hF j hj).1]
    unfold m_l_row
    simp only [mFun_eq', mSeq_eq, mIfS, mRet, mRetN, mAsg, mPar, mExpr, mSkip, mBrk, mCnt, mBad, mRaise, outE_ok, outT_ok, outE_er, seqO_nx, seqO_rt, seqO_er, retO_rt, retO_nx, retO_er, Res.bind_ok, Res.bind_er, Res.bind_bad, mVar_0, mVar_s, mVarI_0, mVarI_s, strip_ref, strip_non, strip_bl, strip_int, strip_str, strip_lst, strip_tup, strip_obj, strip_lck, strip_idn, mC, mBin, mUn, mTst, mCB, mCons, mNil, mStar, mAnd, mOr, mAndT, mOrT, mNotT, mIf, mTru, truV, mTup, mLst, ds?, ds?_map, mCall, withD, mFld, getF_o, getF_r, oNeg, oNot, oAbs, oMax, oMin, oI1, oI2, oInt, add_ii, sub_ii, lt_ii, le_ii, gt_ii, ge_ii, eq_ii, ne_ii, gN, gT_tup, gL_lst, gsC_cons, gsN_nil, List.map_cons, List.map_nil, List.length_cons, List.length_nil, List.cons_append, List.nil_append, List.append_nil, List.replicate_zero, List.replicate_succ, List.set_cons_zero, List.set_cons_succ, List.zip_cons_cons, List.zip_nil_right, List.foldl_cons, List.foldl_nil, Option.map_some, Option.map_none, Option.bind_some, Nat.reduceAdd, Nat.reduceSub, Nat.reduceEqDiff, Nat.reduceLT, Nat.reduceLeDiff, String.reduceEq, reduceCtorEq, Int.reduceLT, Int.reduceLE, Int.reduceEq, Int.reduceAdd, Int.reduceSub, Int.reduceNeg, Int.reduceMul, String.reduceBEq, decide_true, decide_false, if_true, if_false, ite_true, ite_false, Bool.false_eq_true, Bool.not_true, Bool.not_false, Bool.true_and, Bool.false_and, Bool.and_true, Bool.and_false, Bool.true_or, Bool.false_or, Bool.or_true, Bool.or_false, lc]
    show _ = Res.ok (Va.d (.lst (((List.range n).map F).map eD))) _
    rw [List.map_map]
    rfl
  · obtain ⟨j, hj, rfl⟩ := List.mem_map.mp he
    exact (hF j (List.mem_range.mp hj)).2.1
  · unfold stepI
    rw [List.map_map, List.length_map, hl]
    refine List.map_congr_left fun j hj => ?_
    have hj : j < n := List.mem_range.mp hj
    show sc (s + 1) (F j) = _
    rw [(hF j hj).2.2]
    congr 1
    rw [List.map_map, List.map_map]
    refine List.map_congr_left fun r hr => ?_
    have hjr : j < r.length := by rw [(hm r hr).1]; exact hj
    show sc 1 (r.getD j (0, 1)) = (r.map (sc 1)).getD j 0
    rw [List.getD_eq_getElem?_getD, List.getD_eq_getElem?_getD, List.getElem?_map, List.getElem?_eq_getElem hjr]
    rfl
/-! entries shown -/
def shR (e : Int × Nat) : D := ratD (e.1.fdiv (sgd e.1 e.2)) ((e.2 : Int).fdiv (sgd e.1 e.2))
def sh (e : Int × Nat) : D := if e.2 = 1 then .int e.1 else shR e
structure Shows (x : D) (e : Int × Nat) : Prop where
  en : EnD x
  dvd : bt x ∣ e.2
  eq : tp x * e.2 = e.1 * bt x
  bd : ∀ a, Bd a e.1 → Bd a (tp x)
theorem shR_ok {e : Int × Nat} (h : 0 < e.2) : Shows (shR e) e := by
  have b0 : (e.2 : Int) ≠ 0 := by omega
  obtain ⟨s1, s2, s3, s4, _⟩ := sgd_spec (t := e.1) b0
  have g0 : sgd e.1 e.2 ≠ 0 := fun z => by rw [z, Int.zero_mul] at s3; exact b0 s3.symm
  have q : (((e.2 : Int).fdiv (sgd e.1 e.2)).toNat : Int) = (e.2 : Int).fdiv (sgd e.1 e.2) := Int.toNat_of_nonneg (by omega)
  refine ⟨.inr ⟨e.1.fdiv (sgd e.1 e.2), ((e.2 : Int).fdiv (sgd e.1 e.2)).toNat, by rw [q]; rfl, by omega⟩, ?_, ?_, fun a ha => bd_le0 ha g0 (by rw [Int.mul_comm]; exact s4)⟩
  · show ((e.2 : Int).fdiv (sgd e.1 e.2)).toNat ∣ e.2
    refine Int.ofNat_dvd.mp ?_
    rw [q]
    exact ⟨sgd e.1 e.2, by rw [Int.mul_comm]; exact s3.symm⟩
  · show e.1.fdiv (sgd e.1 e.2) * e.2 = e.1 * (((e.2 : Int).fdiv (sgd e.1 e.2)).toNat : Nat)
    rw [q]
    exact s1
theorem sh_ok {e : Int × Nat} (h : 0 < e.2) : Shows (sh e) e := by
  unfold sh
  split
  · rename_i h1
    refine ⟨.inl ⟨_, rfl⟩, Nat.one_dvd _, ?_, fun a ha => ha⟩
    show e.1 * e.2 = e.1 * (1 : Nat)
    rw [h1]
  · exact shR_ok h
theorem mk_shR {e : Int × Nat} {s : Nat} (h : Ok s e) (hs : s ≤ 20) (st : Sto) : makeP "Ratio" (withD [] m_Ratio___init__) [.d (.int e.1), .d (.int e.2)] st = .ok (.d (shR e)) st := by
  have b : Bd 100 (e.2 : Int) := (bd_dvd12 h.2).mono (by omega)
  have p := h.1
  refine ratio_ok st (by omega) ?_
  have : Bd 100 ((Int.gcd e.1 e.2 : Nat) : Int) := b.dvd (Int.gcd_dvd_right ..) (by omega)
  have := this.log2
  simp only [Int.natAbs_natCast] at this
  omega
theorem e_shown {e : Int × Nat} {s : Nat} (h : Ok s e) (hs : s ≤ 20) (st : Sto) : pureF m_l_shown [.d (eD e)] st = .ok (.d (sh e)) st := by
  refine pureF_d (st1 := []) rfl ?_
  have i1 : oIx (.d (.lst [.int e.1, .int e.2])) (.d (.int 0)) [] = .ok (.d (.int e.1)) [] := ix_lst _ _ _ _ rfl
  have i2 : oIx (.d (.lst [.int e.1, .int e.2])) (.d (.int 1)) [] = .ok (.d (.int e.2)) [] := ix_lst _ _ _ _ rfl
  have s1 : strip (.d (eD e)) = .d (.lst [.int e.1, .int e.2]) := rfl
  unfold m_l_shown sh
  by_cases q : e.2 = 1
  · have q' : decide ((e.2 : Int) = 1) = true := decide_eq_true (by omega)
    rw [if_pos q]
    simp only [mFun_eq', mSeq_eq, mIfS, mRet, mRetN, mAsg, mPar, mExpr, mSkip, mBrk, mCnt, mBad, mRaise, outE_ok, outT_ok, outE_er, seqO_nx, seqO_rt, seqO_er, retO_rt, retO_nx, retO_er, Res.bind_ok, Res.bind_er, Res.bind_bad, mVar_0, mVar_s, mVarI_0, mVarI_s, strip_ref, strip_non, strip_bl, strip_int, strip_str, strip_lst, strip_tup, strip_obj, strip_lck, strip_idn, mC, mBin, mUn, mTst, mCB, mCons, mNil, mStar, mAnd, mOr, mAndT, mOrT, mNotT, mIf, mTru, truV, mTup, mLst, ds?, ds?_map, mCall, withD, mFld, getF_o, getF_r, oNeg, oNot, oAbs, oMax, oMin, oI1, oI2, oInt, add_ii, sub_ii, lt_ii, le_ii, gt_ii, ge_ii, eq_ii, ne_ii, gN, gT_tup, gL_lst, gsC_cons, gsN_nil, List.map_cons, List.map_nil, List.length_cons, List.length_nil, List.cons_append, List.nil_append, List.append_nil, List.replicate_zero, List.replicate_succ, List.set_cons_zero, List.set_cons_succ, List.zip_cons_cons, List.zip_nil_right, List.foldl_cons, List.foldl_nil, Option.map_some, Option.map_none, Option.bind_some, Nat.reduceAdd, Nat.reduceSub, Nat.reduceEqDiff, Nat.reduceLT, Nat.reduceLeDiff, String.reduceEq, reduceCtorEq, Int.reduceLT, Int.reduceLE, Int.reduceEq, Int.reduceAdd, Int.reduceSub, Int.reduceNeg, Int.reduceMul, String.reduceBEq, decide_true, decide_false, if_true, if_false, ite_true, ite_false, Bool.false_eq_true, Bool.not_true, Bool.not_false, Bool.true_and, Bool.false_and, Bool.and_true, Bool.and_false, Bool.true_or, Bool.false_or, Bool.or_true, Bool.or_false, s1, i1, i2, q']
  · have q' : decide ((e.2 : Int) = 1) = false := decide_eq_false (by omega)
    rw [if_neg q]
    simp only [mFun_eq', mSeq_eq, mIfS, mRet, mRetN, mAsg, mPar, mExpr, mSkip, mBrk, mCnt, mBad, mRaise, outE_ok, outT_ok, outE_er, seqO_nx, seqO_rt, seqO_er, retO_rt, retO_nx, retO_er, Res.bind_ok, Res.bind_er, Res.bind_bad, mVar_0, mVar_s, mVarI_0, mVarI_s, strip_ref, strip_non, strip_bl, strip_int, strip_str, strip_lst, strip_tup, strip_obj, strip_lck, strip_idn, mC, mBin, mUn, mTst, mCB, mCons, mNil, mStar, mAnd, mOr, mAndT, mOrT, mNotT, mIf, mTru, truV, mTup, mLst, ds?, ds?_map, mCall, withD, mFld, getF_o, getF_r, oNeg, oNot, oAbs, oMax, oMin, oI1, oI2, oInt, add_ii, sub_ii, lt_ii, le_ii, gt_ii, ge_ii, eq_ii, ne_ii, gN, gT_tup, gL_lst, gsC_cons, gsN_nil, List.map_cons, List.map_nil, List.length_cons, List.length_nil, List.cons_append, List.nil_append, List.append_nil, List.replicate_zero, List.replicate_succ, List.set_cons_zero, List.set_cons_succ, List.zip_cons_cons, List.zip_nil_right, List.foldl_cons, List.foldl_nil, Option.map_some, Option.map_none, Option.bind_some, Nat.reduceAdd, Nat.reduceSub, Nat.reduceEqDiff, Nat.reduceLT, Nat.reduceLeDiff, String.reduceEq, reduceCtorEq, Int.reduceLT, Int.reduceLE, Int.reduceEq, Int.reduceAdd, Int.reduceSub, Int.reduceNeg, Int.reduceMul, String.reduceBEq, decide_true, decide_false, if_true, if_false, ite_true, ite_false, Bool.false_eq_true, Bool.not_true, Bool.not_false, Bool.true_and, Bool.false_and, Bool.and_true, Bool.and_false, Bool.true_or, Bool.false_or, Bool.or_true, Bool.or_false, s1, i1, i2, q', mk_shR h hs]
theorem tuple_lst (xs : List D) (st : Sto) : oTuple [.d (.lst xs)] st = .ok (.d (.tup xs)) st := rfl
theorem e_told {f l : List (Int × Nat)} {Ms : List (List (List (Int × Nat)))} (hf : f.length ≤ 4) (hl : l.length ≤ 4) (hM : Ms.length ≤ 4) (h1 : ∀ e ∈ f, Ok 1 e) (h2 : ∀ e ∈ l, Ok 1 e) (h3 : ∀ M ∈ Ms, M.length ≤ 4 ∧ ∀ r ∈ M, r.length ≤ 4 ∧ ∀ e ∈ r, Ok 1 e) (st : Sto) :
    pureF m_l_told [.d (rowE f), .d (.lst (Ms.map matE)), .d (rowE l)] st = .ok (.d (machD (f.map sh) (Ms.map fun M => M.map fun r => r.map sh) (l.map sh))) st := by
  refine pureF_d (st1 := []) rfl ?_
  have row : ∀ (i : Nat) (r : List (Int × Nat)) (ρ : Ev), r.length ≤ 4 → (∀ e ∈ r, Ok 1 e) → mVar i ρ [] = .ok (.d (rowE r)) [] → ρ.length = 7 → mLc [6] (mItS (mVar i)) (gN 6) mYes (mCall (withD [] (pureF m_l_shown)) (mCons (mVar 6) mNil)) ρ [] = .ok (.d (.lst (r.map sh))) [] := fun i r ρ hr he hv hρ => by
    refine mLc_map r (fun e => Va.d (eD e)) sh (by rw [itS_lst (xs := r.map eD) (st1 := []) hv, List.map_map]; rfl) (by show _ ≤ 1000000; omega) fun e hm => ?_
    refine ⟨(wipeE ρ [6]).set 6 (some (.d (eD e))), rfl, ?_⟩
    have s1 : mVar 6 ((wipeE ρ [6]).set 6 (some (.d (eD e)))) [] = .ok (.d (eD e)) [] := by
      unfold mVar
      rw [List.getElem?_set_self (by rw [wipeE_len]; omega)]
      rfl
    unfold mCall mCons mNil
    rw [s1]
    simp only [Res.bind_ok]
    show pureF m_l_shown [.d (eD e)] [] = _
    exact e_shown (he e hm) (by decide) []
  have big : mLc [4] (mItS (mVar 1)) (gN 4) mYes (mCB oTuple (mCons (mLc [5] (mItS (mVar 4)) (gN 5) mYes (mCB oTuple (mCons (mLc [6] (mItS (mVar 5)) (gN 6) mYes (mCall (withD [] (pureF m_l_shown)) (mCons (mVar 6) mNil))) mNil))) mNil)) [some (.d (rowE f)), some (.d (.lst (Ms.map matE))), some (.d (rowE l)), none, none, none, none] [] = .ok (.d (.lst (Ms.map fun M => matD (M.map fun r => r.map sh)))) [] := by
    refine mLc_map Ms (fun M => Va.d (matE M)) _ (by rw [itS_lst (xs := Ms.map matE) (st1 := []) (by simp only [mFun_eq', mSeq_eq, mIfS, mRet, mRetN, mAsg, mPar, mExpr, mSkip, mBrk, mCnt, mBad, mRaise, outE_ok, outT_ok, outE_er, seqO_nx, seqO_rt, seqO_er, retO_rt, retO_nx, retO_er, Res.bind_ok, Res.bind_er, Res.bind_bad, mVar_0, mVar_s, mVarI_0, mVarI_s, strip_ref, strip_non, strip_bl, strip_int, strip_str, strip_lst, strip_tup, strip_obj, strip_lck, strip_idn, mC, mBin, mUn, mTst, mCB, mCons, mNil, mStar, mAnd, mOr, mAndT, mOrT, mNotT, mIf, mTru, truV, mTup, mLst, ds?, ds?_map, mCall, withD, mFld, getF_o, getF_r, oNeg, oNot, oAbs, oMax, oMin, oI1, oI2, oInt, add_ii, sub_ii, lt_ii, le_ii, gt_ii, ge_ii, eq_ii, ne_ii, gN, gT_tup, gL_lst, gsC_cons, gsN_nil, List.map_cons, List.map_nil, List.length_cons, List.length_nil, List.cons_append, List.nil_append, List.append_nil, List.replicate_zero, List.replicate_succ, List.set_cons_zero, List.set_cons_succ, List.zip_cons_cons, List.zip_nil_right, List.foldl_cons, List.foldl_nil, Option.map_some, Option.map_none, Option.bind_some, Nat.reduceAdd, Nat.reduceSub, Nat.reduceEqDiff, Nat.reduceLT, Nat.reduceLeDiff, String.reduceEq, reduceCtorEq, Int.reduceLT, Int.reduceLE, Int.reduceEq, Int.reduceAdd, Int.reduceSub, Int.reduceNeg, Int.reduceMul, String.reduceBEq, decide_true, decide_false, if_true, if_false, ite_true, ite_false, Bool.false_eq_true, Bool.not_true, Bool.not_false, Bool.true_and, Bool.false_and, Bool.and_true, Bool.and_false, Bool.true_or, Bool.false_or, Bool.or_true, Bool.or_false]), List.map_map]; rfl) (by show _ ≤ 1000000; omega) fun M hm => ?_
    refine ⟨[some (.d (rowE f)), some (.d (.lst (Ms.map matE))), some (.d (rowE l)), none, some (.d (matE M)), none, none], rfl, ?_⟩
    have mid : mLc [5] (mItS (mVar 4)) (gN 5) mYes (mCB oTuple (mCons (mLc [6] (mItS (mVar 5)) (gN 6) mYes (mCall (withD [] (pureF m_l_shown)) (mCons (mVar 6) mNil))) mNil)) [some (.d (rowE f)), some (.d (.lst (Ms.map matE))), some (.d (rowE l)), none, some (.d (matE M)), none, none] [] = .ok (.d (.lst (M.map fun r => D.tup (r.map sh)))) [] := by
      refine mLc_map M (fun r => Va.d (rowE r)) _ (by rw [itS_lst (xs := M.map rowE) (st1 := []) (by simp only [mFun_eq', mSeq_eq, mIfS, mRet, mRetN, mAsg, mPar, mExpr, mSkip, mBrk, mCnt, mBad, mRaise, outE_ok, outT_ok, outE_er, seqO_nx, seqO_rt, seqO_er, retO_rt, retO_nx, retO_er, Res.bind_ok, Res.bind_er, Res.bind_bad, mVar_0, mVar_s, mVarI_0, mVarI_s, strip_ref, strip_non, strip_bl, strip_int, strip_str, strip_lst, strip_tup, strip_obj, strip_lck, strip_idn, mC, mBin, mUn, mTst, mCB, mCons, mNil, mStar, mAnd, mOr, mAndT, mOrT, mNotT, mIf, mTru, truV, mTup, mLst, ds?, ds?_map, mCall, withD, mFld, getF_o, getF_r, oNeg, oNot, oAbs, oMax, oMin, oI1, oI2, oInt, add_ii, sub_ii, lt_ii, le_ii, gt_ii, ge_ii, eq_ii, ne_ii, gN, gT_tup, gL_lst, gsC_cons, gsN_nil, List.map_cons, List.map_nil, List.length_cons, List.length_nil, List.cons_append, List.nil_append, List.append_nil, List.replicate_zero, List.replicate_succ, List.set_cons_zero, List.set_cons_succ, List.zip_cons_cons, List.zip_nil_right, List.foldl_cons, List.foldl_nil, Option.map_some, Option.map_none, Option.bind_some, Nat.reduceAdd, Nat.reduceSub, Nat.reduceEqDiff, Nat.reduceLT, Nat.reduceLeDiff, String.reduceEq, reduceCtorEq, Int.reduceLT, Int.reduceLE, Int.reduceEq, Int.reduceAdd, Int.reduceSub, Int.reduceNeg, Int.reduceMul, String.reduceBEq, decide_true, decide_false, if_true, if_false, ite_true, ite_false, Bool.false_eq_true, Bool.not_true, Bool.not_false, Bool.true_and, Bool.false_and, Bool.and_true, Bool.and_false, Bool.true_or, Bool.false_or, Bool.or_true, Bool.or_false]), List.map_map]; rfl) (by show _ ≤ 1000000; have := (h3 M hm).1; omega) fun r hr => ?_
      refine ⟨[some (.d (rowE f)), some (.d (.lst (Ms.map matE))), some (.d (rowE l)), none, some (.d (matE M)), some (.d (rowE r)), none], rfl, ?_⟩
      have rr := row 5 r [some (.d (rowE f)), some (.d (.lst (Ms.map matE))), some (.d (rowE l)), none, some (.d (matE M)), some (.d (rowE r)), none] ((h3 M hm).2 r hr).1 ((h3 M hm).2 r hr).2 rfl rfl
      simp only [mFun_eq', mSeq_eq, mIfS, mRet, mRetN, mAsg, mPar, mExpr, mSkip, mBrk, mCnt, mBad, mRaise, outE_ok, outT_ok, outE_er, seqO_nx, seqO_rt, seqO_er, retO_rt, retO_nx, retO_er, Res.bind_ok, Res.bind_er, Res.bind_bad, mVar_0, mVar_s, mVarI_0, mVarI_s, strip_ref, strip_non, strip_bl, strip_int, strip_str, strip_lst, strip_tup, strip_obj, strip_lck, strip_idn, mC, mBin, mUn, mTst, mCB, mCons, mNil, mStar, mAnd, mOr, mAndT, mOrT, mNotT, mIf, mTru, truV, mTup, mLst, ds?, ds?_map, mCall, withD, mFld, getF_o, getF_r, oNeg, oNot, oAbs, oMax, oMin, oI1, oI2, oInt, add_ii, sub_ii, lt_ii, le_ii, gt_ii, ge_ii, eq_ii, ne_ii, gN, gT_tup, gL_lst, gsC_cons, gsN_nil, List.map_cons, List.map_nil, List.length_cons, List.length_nil, List.cons_append, List.nil_append, List.append_nil, List.replicate_zero, List.replicate_succ, List.set_cons_zero, List.set_cons_succ, List.zip_cons_cons, List.zip_nil_right, List.foldl_cons, List.foldl_nil, Option.map_some, Option.map_none, Option.bind_some, Nat.reduceAdd, Nat.reduceSub, Nat.reduceEqDiff, Nat.reduceLT, Nat.reduceLeDiff, String.reduceEq, reduceCtorEq, Int.reduceLT, Int.reduceLE, Int.reduceEq, Int.reduceAdd, Int.reduceSub, Int.reduceNeg, Int.reduceMul, String.reduceBEq, decide_true, decide_false, if_true, if_false, ite_true, ite_false, Bool.false_eq_true, Bool.not_true, Bool.not_false, Bool.true_and, Bool.false_and, Bool.and_true, Bool.and_false, Bool.true_or, Bool.false_or, Bool.or_true, Bool.or_false, rr, tuple_lst]
    simp only [mFun_eq', mSeq_eq, mIfS, mRet, mRetN, mAsg, mPar, mExpr, mSkip, mBrk, mCnt, mBad, mRaise, outE_ok, outT_ok, outE_er, seqO_nx, seqO_rt, seqO_er, retO_rt, retO_nx, retO_er, Res.bind_ok, Res.bind_er, Res.bind_bad, mVar_0, mVar_s, mVarI_0, mVarI_s, strip_ref, strip_non, strip_bl, strip_int, strip_str, strip_lst, strip_tup, strip_obj, strip_lck, strip_idn, mC, mBin, mUn, mTst, mCB, mCons, mNil, mStar, mAnd, mOr, mAndT, mOrT, mNotT, mIf, mTru, truV, mTup, mLst, ds?, ds?_map, mCall, withD, mFld, getF_o, getF_r, oNeg, oNot, oAbs, oMax, oMin, oI1, oI2, oInt, add_ii, sub_ii, lt_ii, le_ii, gt_ii, ge_ii, eq_ii, ne_ii, gN, gT_tup, gL_lst, gsC_cons, gsN_nil, List.map_cons, List.map_nil, List.length_cons, List.length_nil, List.cons_append, List.nil_append, List.append_nil, List.replicate_zero, List.replicate_succ, List.set_cons_zero, List.set_cons_succ, List.zip_cons_cons, List.zip_nil_right, List.foldl_cons, List.foldl_nil, Option.map_some, Option.map_none, Option.bind_some, Nat.reduceAdd, Nat.reduceSub, Nat.reduceEqDiff, Nat.reduceLT, Nat.reduceLeDiff, String.reduceEq, reduceCtorEq, Int.reduceLT, Int.reduceLE, Int.reduceEq, Int.reduceAdd, Int.reduceSub, Int.reduceNeg, Int.reduceMul, String.reduceBEq, decide_true, decide_false, if_true, if_false, ite_true, ite_false, Bool.false_eq_true, Bool.not_true, Bool.not_false, Bool.true_and, Bool.false_and, Bool.and_true, Bool.and_false, Bool.true_or, Bool.false_or, Bool.or_true, Bool.or_false, mid, tuple_lst]
    unfold matD
    rw [List.map_map]
    rfl
  have rf := row 0 f [some (.d (rowE f)), some (.d (.lst (Ms.map matE))), some (.d (rowE l)), some (.d (.lst (Ms.map fun M => matD (M.map fun r => r.map sh)))), none, none, none] hf h1 rfl rfl
  have rl := row 2 l [some (.d (rowE f)), some (.d (.lst (Ms.map matE))), some (.d (rowE l)), some (.d (.lst (Ms.map fun M => matD (M.map fun r => r.map sh)))), none, none, none] hl h2 rfl rfl
  unfold m_l_told
  simp only [mFun_eq', mSeq_eq, mIfS, mRet, mRetN, mAsg, mPar, mExpr, mSkip, mBrk, mCnt, mBad, mRaise, outE_ok, outT_ok, outE_er, seqO_nx, seqO_rt, seqO_er, retO_rt, retO_nx, retO_er, Res.bind_ok, Res.bind_er, Res.bind_bad, mVar_0, mVar_s, mVarI_0, mVarI_s, strip_ref, strip_non, strip_bl, strip_int, strip_str, strip_lst, strip_tup, strip_obj, strip_lck, strip_idn, mC, mBin, mUn, mTst, mCB, mCons, mNil, mStar, mAnd, mOr, mAndT, mOrT, mNotT, mIf, mTru, truV, mTup, mLst, ds?, ds?_map, mCall, withD, mFld, getF_o, getF_r, oNeg, oNot, oAbs, oMax, oMin, oI1, oI2, oInt, add_ii, sub_ii, lt_ii, le_ii, gt_ii, ge_ii, eq_ii, ne_ii, gN, gT_tup, gL_lst, gsC_cons, gsN_nil, List.map_cons, List.map_nil, List.length_cons, List.length_nil, List.cons_append, List.nil_append, List.append_nil, List.replicate_zero, List.replicate_succ, List.set_cons_zero, List.set_cons_succ, List.zip_cons_cons, List.zip_nil_right, List.foldl_cons, List.foldl_nil, Option.map_some, Option.map_none, Option.bind_some, Nat.reduceAdd, Nat.reduceSub, Nat.reduceEqDiff, Nat.reduceLT, Nat.reduceLeDiff, String.reduceEq, reduceCtorEq, Int.reduceLT, Int.reduceLE, Int.reduceEq, Int.reduceAdd, Int.reduceSub, Int.reduceNeg, Int.reduceMul, String.reduceBEq, decide_true, decide_false, if_true, if_false, ite_true, ite_false, Bool.false_eq_true, Bool.not_true, Bool.not_false, Bool.true_and, Bool.false_and, Bool.and_true, Bool.and_false, Bool.true_or, Bool.false_or, Bool.or_true, Bool.or_false, big, rf, rl, tuple_lst, cap]
  unfold machD
  rw [List.map_map]
  rfl
theorem e_same {p q : Int} {e : Int × Nat} (h : p * e.2 = e.1 * q) (hq : 0 < q) (b1 : Bd 200000 p) (b2 : Bd 200000 q) (b3 : Bd 200000 e.1) (b4 : Bd 200000 (e.2 : Int)) (st : Sto) : pureF m_l_same [.d (ratD p q), .d (eD e)] st = .ok (.d (.bl true)) st := by
  refine pureF_d (st1 := []) rfl ?_
  have i1 : oIx (.d (.lst [.int e.1, .int e.2])) (.d (.int 0)) [] = .ok (.d (.int e.1)) [] := ix_lst _ _ _ _ rfl
  have i2 : oIx (.d (.lst [.int e.1, .int e.2])) (.d (.int 1)) [] = .ok (.d (.int e.2)) [] := ix_lst _ _ _ _ rfl
  have s1 : strip (.d (eD e)) = .d (.lst [.int e.1, .int e.2]) := rfl
  have t := tag_rat (x := ratD p q) (st := []) rfl
  rw [isRat_ratD] at t
  have s : strip (.d (ratD p q)) = .d (ratD p q) := rfl
  have tb := p_bottom (o := mVar 0) (ρ := [some (.d (ratD p q)), some (.d (eD e))]) (st := []) (st1 := []) (p := p) (q := q) rfl
  have tt := p_top (o := mVar 0) (ρ := [some (.d (ratD p q)), some (.d (eD e))]) (st := []) (st1 := []) (p := p) (q := q) rfl
  have m1 := mul_ok (i := p) (j := e.2) [] (b1.cmul b4 (by decide))
  have m2 := mul_ok (i := e.1) (j := q) [] (b3.cmul b2 (by decide))
  have d1 : decide (p * e.2 = e.1 * q) = true := decide_eq_true h
  have d2 : decide (0 < q) = true := decide_eq_true hq
  unfold m_l_same
  simp only [mFun_eq', mSeq_eq, mIfS, mRet, mRetN, mAsg, mPar, mExpr, mSkip, mBrk, mCnt, mBad, mRaise, outE_ok, outT_ok, outE_er, seqO_nx, seqO_rt, seqO_er, retO_rt, retO_nx, retO_er, Res.bind_ok, Res.bind_er, Res.bind_bad, mVar_0, mVar_s, mVarI_0, mVarI_s, strip_ref, strip_non, strip_bl, strip_int, strip_str, strip_lst, strip_tup, strip_obj, strip_lck, strip_idn, mC, mBin, mUn, mTst, mCB, mCons, mNil, mStar, mAnd, mOr, mAndT, mOrT, mNotT, mIf, mTru, truV, mTup, mLst, ds?, ds?_map, mCall, withD, mFld, getF_o, getF_r, oNeg, oNot, oAbs, oMax, oMin, oI1, oI2, oInt, add_ii, sub_ii, lt_ii, le_ii, gt_ii, ge_ii, eq_ii, ne_ii, gN, gT_tup, gL_lst, gsC_cons, gsN_nil, List.map_cons, List.map_nil, List.length_cons, List.length_nil, List.cons_append, List.nil_append, List.append_nil, List.replicate_zero, List.replicate_succ, List.set_cons_zero, List.set_cons_succ, List.zip_cons_cons, List.zip_nil_right, List.foldl_cons, List.foldl_nil, Option.map_some, Option.map_none, Option.bind_some, Nat.reduceAdd, Nat.reduceSub, Nat.reduceEqDiff, Nat.reduceLT, Nat.reduceLeDiff, String.reduceEq, reduceCtorEq, Int.reduceLT, Int.reduceLE, Int.reduceEq, Int.reduceAdd, Int.reduceSub, Int.reduceNeg, Int.reduceMul, String.reduceBEq, decide_true, decide_false, if_true, if_false, ite_true, ite_false, Bool.false_eq_true, Bool.not_true, Bool.not_false, Bool.true_and, Bool.false_and, Bool.and_true, Bool.and_false, Bool.true_or, Bool.false_or, Bool.or_true, Bool.or_false, s, t, tt, tb, s1, i1, i2, m1, m2, d1, d2]
theorem e_entry {k : Nat} {st : Sto} (P : PoolAt k st) : ∃ e st1, m_l_entry [.ref k] st = .ok (.d (eD e)) st1 ∧ (Ok 1 e ∧ Bd 3 e.1) ∧ PoolAt k st1 ∧ st1.length = st.length := by
  obtain ⟨d1, st1, h1, h2, h3, P1, l1⟩ := draw_ok P (n := 7) (by decide) (by decide)
  obtain ⟨d2, st2, g1, g2, g3, P2, l2⟩ := draw_ok P1 (n := 2) (by decide) (by decide)
  have bd : Bd 3 (d1 - 3) := by unfold Bd; show (d1 - 3).natAbs < 8; omega
  by_cases q : d2 = 0
  · refine ⟨(d1 - 3, 1), st2, ?_, ⟨⟨Nat.one_pos, Nat.one_dvd _⟩, bd⟩, P2, by rw [l2, l1]⟩
    have q' : decide (d2 = 0) = true := decide_eq_true q
    unfold m_l_entry
    simp only [mFun_eq', mSeq_eq, mIfS, mRet, mRetN, mAsg, mPar, mExpr, mSkip, mBrk, mCnt, mBad, mRaise, outE_ok, outT_ok, outE_er, seqO_nx, seqO_rt, seqO_er, retO_rt, retO_nx, retO_er, Res.bind_ok, Res.bind_er, Res.bind_bad, mVar_0, mVar_s, mVarI_0, mVarI_s, strip_ref, strip_non, strip_bl, strip_int, strip_str, strip_lst, strip_tup, strip_obj, strip_lck, strip_idn, mC, mBin, mUn, mTst, mCB, mCons, mNil, mStar, mAnd, mOr, mAndT, mOrT, mNotT, mIf, mTru, truV, mTup, mLst, ds?, ds?_map, mCall, withD, mFld, getF_o, getF_r, oNeg, oNot, oAbs, oMax, oMin, oI1, oI2, oInt, add_ii, sub_ii, lt_ii, le_ii, gt_ii, ge_ii, eq_ii, ne_ii, gN, gT_tup, gL_lst, gsC_cons, gsN_nil, List.map_cons, List.map_nil, List.length_cons, List.length_nil, List.cons_append, List.nil_append, List.append_nil, List.replicate_zero, List.replicate_succ, List.set_cons_zero, List.set_cons_succ, List.zip_cons_cons, List.zip_nil_right, List.foldl_cons, List.foldl_nil, Option.map_some, Option.map_none, Option.bind_some, Nat.reduceAdd, Nat.reduceSub, Nat.reduceEqDiff, Nat.reduceLT, Nat.reduceLeDiff, String.reduceEq, reduceCtorEq, Int.reduceLT, Int.reduceLE, Int.reduceEq, Int.reduceAdd, Int.reduceSub, Int.reduceNeg, Int.reduceMul, String.reduceBEq, decide_true, decide_false, if_true, if_false, ite_true, ite_false, Bool.false_eq_true, Bool.not_true, Bool.not_false, Bool.true_and, Bool.false_and, Bool.and_true, Bool.and_false, Bool.true_or, Bool.false_or, Bool.or_true, Bool.or_false, g_draw, h1, g1, q', cap]
    rfl
  · obtain ⟨d3, st3, k1, k2, k3, P3, l3⟩ := draw_ok P2 (n := 4) (by decide) (by decide)
    have b : ((1 + d3).toNat : Int) = 1 + d3 := Int.toNat_of_nonneg (by omega)
    refine ⟨(d1 - 3, (1 + d3).toNat), st3, ?_, ⟨⟨by show 0 < (1 + d3).toNat; omega, ?_⟩, bd⟩, P3, by rw [l3, l2, l1]⟩
    · unfold m_l_entry
      simp only [mFun_eq', mSeq_eq, mIfS, mRet, mRetN, mAsg, mPar, mExpr, mSkip, mBrk, mCnt, mBad, mRaise, outE_ok, outT_ok, outE_er, seqO_nx, seqO_rt, seqO_er, retO_rt, retO_nx, retO_er, Res.bind_ok, Res.bind_er, Res.bind_bad, mVar_0, mVar_s, mVarI_0, mVarI_s, strip_ref, strip_non, strip_bl, strip_int, strip_str, strip_lst, strip_tup, strip_obj, strip_lck, strip_idn, mC, mBin, mUn, mTst, mCB, mCons, mNil, mStar, mAnd, mOr, mAndT, mOrT, mNotT, mIf, mTru, truV, mTup, mLst, ds?, ds?_map, mCall, withD, mFld, getF_o, getF_r, oNeg, oNot, oAbs, oMax, oMin, oI1, oI2, oInt, add_ii, sub_ii, lt_ii, le_ii, gt_ii, ge_ii, eq_ii, ne_ii, gN, gT_tup, gL_lst, gsC_cons, gsN_nil, List.map_cons, List.map_nil, List.length_cons, List.length_nil, List.cons_append, List.nil_append, List.append_nil, List.replicate_zero, List.replicate_succ, List.set_cons_zero, List.set_cons_succ, List.zip_cons_cons, List.zip_nil_right, List.foldl_cons, List.foldl_nil, Option.map_some, Option.map_none, Option.bind_some, Nat.reduceAdd, Nat.reduceSub, Nat.reduceEqDiff, Nat.reduceLT, Nat.reduceLeDiff, String.reduceEq, reduceCtorEq, Int.reduceLT, Int.reduceLE, Int.reduceEq, Int.reduceAdd, Int.reduceSub, Int.reduceNeg, Int.reduceMul, String.reduceBEq, decide_true, decide_false, if_true, if_false, ite_true, ite_false, Bool.false_eq_true, Bool.not_true, Bool.not_false, Bool.true_and, Bool.false_and, Bool.and_true, Bool.and_false, Bool.true_or, Bool.false_or, Bool.or_true, Bool.or_false, g_draw, h1, g1, q, k1, cap]
      show _ = Res.ok (Va.d (.lst [.int (d1 - 3), .int (((1 + d3).toNat : Nat) : Int)])) _
      rw [b]
    · show (1 + d3).toNat ∣ 12 ^ 1
      have : d3 = 0 ∨ d3 = 1 ∨ d3 = 2 ∨ d3 = 3 := by omega
      rcases this with rfl | rfl | rfl | rfl <;> decide

def Pr (A B x y : Int) : Prop := x * A = y * B
theorem dot_pr {A B C E : Int} : ∀ {a a' m m' : List Int}, Paired (Pr A B) a a' → Paired (Pr C E) m m' → dotI a m * (A * C) = dotI a' m' * (B * E)
  | [], _, m, m', .nil, _ => by simp [dotI]
  | _ :: _, _, [], _, .cons _ _, .nil => by simp [dotI]
  | x :: a, _, y :: m, _, @Paired.cons _ _ _ _ x' _ a' h t, @Paired.cons _ _ _ _ y' _ m' h2 t2 => by
    have ih := dot_pr t t2
    have e : ∀ (u v : Int) (p q : List Int), dotI (u :: p) (v :: q) = u * v + dotI p q := fun u v p q => by simp [dotI]
    rw [e, e]
    unfold Pr at h h2
    have a1 : (x * y + dotI a m) * (A * C) = (x * A) * (y * C) + dotI a m * (A * C) := by grind
    rw [a1, h, h2, ih]
    grind
theorem pr_map {α : Type} {A B : Int} {f g : α → Int} : ∀ {l : List α}, (∀ x ∈ l, Pr A B (f x) (g x)) → Paired (Pr A B) (l.map f) (l.map g)
  | [], _ => .nil
  | x :: l, h => .cons (h x (List.mem_cons_self ..)) (pr_map fun y hy => h y (List.mem_cons_of_mem _ hy))
theorem paired_map {α β γ : Type} {R : β → γ → Prop} {f : α → β} {g : α → γ} : ∀ {l : List α}, (∀ x ∈ l, R (f x) (g x)) → Paired R (l.map f) (l.map g)
  | [], _ => .nil
  | x :: l, h => .cons (h x (List.mem_cons_self ..)) (paired_map fun y hy => h y (List.mem_cons_of_mem _ hy))
theorem getD_pr {C E : Int} : ∀ {a a' : List Int}, Paired (Pr C E) a a' → ∀ j, Pr C E (a.getD j 0) (a'.getD j 0)
  | _, _, .nil, j => by simp [Pr]
  | _, _, .cons h t, 0 => h
  | _, _, .cons h t, j + 1 => by simpa using getD_pr t j
theorem col_pr {C E : Int} {j : Nat} : ∀ {M M' : List (List Int)}, Paired (Paired (Pr C E)) M M' → Paired (Pr C E) (M.map fun l => l.getD j 0) (M'.map fun l => l.getD j 0)
  | _, _, .nil => .nil
  | _, _, .cons h t => .cons (getD_pr h j) (col_pr t)
theorem step_pr {A B C E : Int} {r r' : List Int} {M M' : List (List Int)} (h : Paired (Pr A B) r r') (hM : Paired (Paired (Pr C E)) M M') : Paired (Pr (A * C) (B * E)) (stepI r M) (stepI r' M') := by
  unfold stepI
  rw [Paired.length h]
  exact pr_map fun j _ => dot_pr h (col_pr hM)
theorem getD_pr3 {C E : Int} : ∀ {a a' : List (List (List Int))}, Paired (Paired (Paired (Pr C E))) a a' → ∀ j, Paired (Paired (Pr C E)) (a.getD j []) (a'.getD j [])
  | _, _, .nil, j => by simpa using Paired.nil
  | _, _, .cons h t, 0 => h
  | _, _, .cons h t, j + 1 => by simpa using getD_pr3 t j
theorem run_pr {C E : Int} {Ms Ms' : List (List (List Int))} (hM : Paired (Paired (Paired (Pr C E))) Ms Ms') : ∀ (w : List Nat) {A B : Int} {r r' : List Int}, Paired (Pr A B) r r' →
    Paired (Pr (A * C ^ w.length) (B * E ^ w.length)) (w.foldl (fun r k => stepI r (Ms.getD k [])) r) (w.foldl (fun r k => stepI r (Ms'.getD k [])) r')
  | [], A, B, r, r', h => by simpa using h
  | k :: w, A, B, r, r', h => by
    have := run_pr hM w (step_pr h (getD_pr3 hM k))
    rw [List.length_cons, Int.pow_succ, Int.pow_succ]
    rw [show A * (C ^ w.length * C) = A * C * C ^ w.length by grind, show B * (E ^ w.length * E) = B * E * E ^ w.length by grind]
    exact this
theorem gr_pr {x : D} {W N : Nat} (h0 : 0 < bt x) (h1 : bt x ∣ W) (h2 : bt x ∣ N) : Pr N W (gr W x) (gr N x) := by
  unfold Pr gr
  obtain ⟨c, rfl⟩ := h1
  obtain ⟨d, rfl⟩ := h2
  rw [Nat.mul_div_cancel_left _ h0, Nat.mul_div_cancel_left _ h0, Int.natCast_mul, Int.natCast_mul]
  grind
theorem gr_sc {x : D} {e : Int × Nat} {s : Nat} (h : Shows x e) (o : Ok s e) : gr (12 ^ s) x = sc s e := by
  refine (o.uniq ?_).symm
  have b0 := h.en.pos
  have hb : bt x ∣ 12 ^ s := Nat.dvd_trans h.dvd o.2
  refine Int.eq_of_mul_eq_mul_right (a := (bt x : Int)) (by omega) ?_
  unfold gr
  obtain ⟨d, hd⟩ := hb
  have e1 : (12 : Int) ^ s = ((12 ^ s : Nat) : Int) := by rw [Int.natCast_pow]; rfl
  have e2 := h.eq
  rw [e1, hd, Nat.mul_div_cancel_left _ b0, Int.natCast_mul]
  have : e.1 * (bt x * d) * bt x = (e.1 * bt x) * (bt x * d) := by grind
  rw [this, ← e2]
  grind
abbrev lawM (Ms : List (List (List (Int × Nat)))) : List (List (List Int)) := Ms.map fun M => M.map fun r => r.map (sc 1)
def lawRun (Ms : List (List (List (Int × Nat)))) (w : List Nat) (r : List Int) : List Int := w.foldl (fun r k => stepI r ((lawM Ms).getD k [])) r
structure Dat (n s : Nat) (X : Int × Nat → D) (es : List (Int × Nat)) (Ms : List (List (List (Int × Nat)))) (ls : List (Int × Nat)) : Prop where
  n4 : n ≤ 3
  s1 : 1 ≤ s
  s2 : s ≤ 20
  X : ∀ e ∈ es, Shows (X e) e
  f : es.length = n ∧ ∀ e ∈ es, Ok s e ∧ Bd 2000 (sc s e)
  l : ls.length = n ∧ ∀ e ∈ ls, Ok 1 e ∧ Bd 10 (sc 1 e)
  m4 : Ms.length ≤ 4
  m : ∀ M ∈ Ms, M.length = n ∧ ∀ r ∈ M, r.length = n ∧ ∀ e ∈ r, Ok 1 e ∧ Bd 10 (sc 1 e)
abbrev shM (Ms : List (List (List (Int × Nat)))) : List (List (List D)) := Ms.map fun M => M.map fun r => r.map sh
theorem flat_len {α : Type} (k : Nat) : ∀ (l : List (List α)), (∀ x ∈ l, x.length ≤ k) → l.flatten.length ≤ k * l.length
  | [], _ => by simp
  | x :: l, h => by
    rw [List.flatten_cons, List.length_append, List.length_cons, Nat.mul_succ]
    have := flat_len k l fun y hy => h y (List.mem_cons_of_mem _ hy)
    have := h x (List.mem_cons_self ..)
    omega
theorem Dat.good {n s : Nat} {X : Int × Nat → D} {es ls : List (Int × Nat)} {Ms : List (List (List (Int × Nat)))} (T : Dat n s X es Ms ls) : Good (12 ^ s) (es.map X) (shM Ms) (ls.map sh) := by
  have n4 := T.n4
  refine ⟨?_, ⟨by rw [List.length_map]; have := T.f.1; omega, by rw [List.length_map]; have := T.l.1; omega, by rw [List.length_map]; exact T.m4, fun m hm => ?_⟩, fun x hx => ?_, ?_, Nat.pow_pos (by decide)⟩
  · unfold allE
    have a1 : (shM Ms).flatten.length ≤ 4 * (shM Ms).length := flat_len 4 _ fun m hm => by
      obtain ⟨M, hM, rfl⟩ := List.mem_map.mp hm
      rw [List.length_map, (T.m M hM).1]
      omega
    have a2 : (shM Ms).flatten.flatten.length ≤ 4 * (shM Ms).flatten.length := flat_len 4 _ fun r hr => by
      obtain ⟨m, hm, hr⟩ := List.mem_flatten.mp hr
      obtain ⟨M, hM, rfl⟩ := List.mem_map.mp hm
      obtain ⟨q, hq, rfl⟩ := List.mem_map.mp hr
      rw [List.length_map, ((T.m M hM).2 q hq).1]
      omega
    have a3 : (shM Ms).length ≤ 4 := by rw [List.length_map]; exact T.m4
    rw [List.length_append, List.length_append, List.length_map, List.length_map, T.f.1, T.l.1]
    omega
  · obtain ⟨M, hM, rfl⟩ := List.mem_map.mp hm
    refine ⟨by rw [List.length_map, (T.m M hM).1]; omega, fun r hr => ?_⟩
    obtain ⟨q, hq, rfl⟩ := List.mem_map.mp hr
    rw [List.length_map, ((T.m M hM).2 q hq).1]
    omega
  · have small : ∀ e : Int × Nat, Ok 1 e ∧ Bd 10 (sc 1 e) → EnD (sh e) ∧ bt (sh e) ∣ 12 ^ s ∧ Bd 5000 (tp (sh e)) := fun e h => by
      have S := sh_ok h.1.1
      refine ⟨S.en, Nat.dvd_trans S.dvd (Nat.dvd_trans h.1.2 (Nat.pow_dvd_pow 12 T.s1)), S.bd _ ((h.1.bd1 h.2).mono (by decide))⟩
    unfold allE at hx
    rw [List.mem_append, List.mem_append] at hx
    rcases hx with (hx | hx) | hx
    · obtain ⟨e, he, rfl⟩ := List.mem_map.mp hx
      obtain ⟨o, b⟩ := T.f.2 e he
      have S := T.X e he
      exact ⟨S.en, Nat.dvd_trans S.dvd o.2, S.bd _ ((o.bd1 b).mono (by decide))⟩
    · obtain ⟨e, he, rfl⟩ := List.mem_map.mp hx
      exact small e (T.l.2 e he)
    · obtain ⟨r, hr, hx⟩ := List.mem_flatten.mp hx
      obtain ⟨m, hm, hr⟩ := List.mem_flatten.mp hr
      obtain ⟨M, hM, rfl⟩ := List.mem_map.mp hm
      obtain ⟨q, hq, rfl⟩ := List.mem_map.mp hr
      obtain ⟨e, he, rfl⟩ := List.mem_map.mp hx
      exact small e (((T.m M hM).2 q hq).2 e he)
  · exact (bd12 s).mono (by have := T.s2; omega)
theorem Dat.shape {n s : Nat} {X : Int × Nat → D} {es ls : List (Int × Nat)} {Ms : List (List (List (Int × Nat)))} (T : Dat n s X es Ms ls) : Shape n (es.map X) (shM Ms) (ls.map sh) := by
  refine ⟨by rw [List.length_map]; exact T.f.1, by rw [List.length_map]; exact T.l.1, fun m hm => ?_⟩
  obtain ⟨M, hM, rfl⟩ := List.mem_map.mp hm
  refine ⟨by rw [List.length_map]; exact (T.m M hM).1, fun r hr => ?_⟩
  obtain ⟨q, hq, rfl⟩ := List.mem_map.mp hr
  rw [List.length_map]
  exact ((T.m M hM).2 q hq).1
theorem value_eq {n s : Nat} {X : Int × Nat → D} {es ls : List (Int × Nat)} {Ms : List (List (List (Int × Nat)))} (T : Dat n s X es Ms ls) {w : List Nat} (hw : ∀ k ∈ w, k < Ms.length) (hl : w.length ≤ 15) (st : Sto) :
    ∃ p q : Int, pureF m_machine_value [.d (machD (es.map X) (shM Ms) (ls.map sh)), .d (wordD w)] st = .ok (.d (ratD p q)) st ∧ 0 < q ∧ Bd 200000 p ∧ Bd 200000 q ∧ p * 12 ^ (s + w.length + 1) = dotI (lawRun Ms w (es.map (sc s))) (ls.map (sc 1)) * q := by
  have G := T.good
  obtain ⟨p, q, h1, h2, h3, h4, h5⟩ := e_value G T.shape (w := w) (fun k hk => by rw [List.length_map]; exact hw k hk) hl st
  refine ⟨p, q, h1, h2, h3, h4, ?_⟩
  have w0 := G.w0
  have gf := G.f
  have gl := G.l
  have gm := G.m
  generalize lcmL (allE (es.map X) (shM Ms) (ls.map sh)) = W at h5 w0 gf gl gm
  have r1 : Paired (Pr ((12 : Int) ^ s) W) ((es.map X).map (gr W)) (es.map (sc s)) := by
    rw [List.map_map]
    refine pr_map fun e he => ?_
    have S := T.X e he
    have o := (T.f.2 e he).1
    have := gr_pr (x := X e) (W := W) (N := 12 ^ s) S.en.pos (gf _ (List.mem_map_of_mem he)).2.1 (Nat.dvd_trans S.dvd o.2)
    rw [gr_sc S o, Int.natCast_pow] at this
    exact this
  have en1 : ∀ e : Int × Nat, Ok 1 e → bt (sh e) ∣ W → Pr 12 W (gr W (sh e)) (sc 1 e) := fun e o hW => by
    have S := sh_ok o.1
    have := gr_pr (x := sh e) (W := W) (N := 12 ^ 1) S.en.pos hW (Nat.dvd_trans S.dvd o.2)
    rw [gr_sc S o] at this
    exact this
  have r2 : Paired (Pr 12 W) ((ls.map sh).map (gr W)) (ls.map (sc 1)) := by
    rw [List.map_map]
    exact pr_map fun e he => en1 e (T.l.2 e he).1 (gl _ (List.mem_map_of_mem he)).2.1
  have r3 : Paired (Paired (Paired (Pr 12 W))) (mats W (shM Ms)) (lawM Ms) := by
    unfold mats
    rw [List.map_map]
    refine paired_map fun M hM => ?_
    show Paired _ (List.map _ (List.map _ M)) _
    rw [List.map_map]
    refine paired_map fun r hr => ?_
    show Paired _ (List.map _ (List.map _ r)) _
    rw [List.map_map]
    exact pr_map fun e he => en1 e (((T.m M hM).2 r hr).2 e he).1 (gm _ (List.mem_map_of_mem hM) _ (List.mem_map_of_mem hr) _ (List.mem_map_of_mem he)).2.1
  have r4 := dot_pr (run_pr r3 w r1) r2
  have h5 : p * (W : Int) ^ (w.length + 2) = dotI (w.foldl (fun r k => stepI r ((mats W (shM Ms)).getD k [])) ((es.map X).map (gr W))) ((ls.map sh).map (gr W)) * q := h5
  show p * 12 ^ (s + w.length + 1) = dotI (w.foldl (fun r k => stepI r ((lawM Ms).getD k [])) (es.map (sc s))) (ls.map (sc 1)) * q
  generalize dotI (w.foldl (fun r k => stepI r ((mats W (shM Ms)).getD k [])) ((es.map X).map (gr W))) ((ls.map sh).map (gr W)) = t at h5 r4
  generalize dotI (w.foldl (fun r k => stepI r ((lawM Ms).getD k [])) (es.map (sc s))) (ls.map (sc 1)) = S at r4 ⊢
  have v0 : (W : Int) ^ (w.length + 2) ≠ 0 := Int.pow_ne_zero (by omega)
  have e1 : (12 : Int) ^ s * 12 ^ w.length * 12 = 12 ^ (s + w.length + 1) := by rw [Int.pow_succ, Int.pow_add]
  have e2 : (W : Int) * W ^ w.length * W = W ^ (w.length + 2) := by
    rw [show w.length + 2 = w.length + 1 + 1 from rfl, Int.pow_succ, Int.pow_succ]
    grind
  rw [e1, e2] at r4
  refine Int.eq_of_mul_eq_mul_right v0 ?_
  generalize (12 : Int) ^ (s + w.length + 1) = c at r4 ⊢
  generalize (W : Int) ^ (w.length + 2) = v at r4 h5 ⊢
  have : p * c * v = (p * v) * c := by grind
  rw [this, h5]
  have : t * q * c = (t * c) * q := by grind
  rw [this, r4]
  grind

theorem cut_eq {α : Type} (xs : List α) : cutA xs none (some (-1)) = xs.take (xs.length - 1) := by
  unfold cutA
  rw [HT.sIx_none, List.drop_zero]
  congr 1
  show (if (-1 : Int) < 0 then ((-1 : Int) + (xs.length : Int)).toNat else min (-1 : Int).toNat xs.length) - 0 = _
  rw [if_pos (by decide)]
  omega
theorem cut_len {α : Type} (xs : List α) : (cutA xs none (some (-1))).length = xs.length - 1 := by rw [cut_eq, List.length_take]; omega
theorem cut_mem {α : Type} {xs : List α} {y : α} (h : y ∈ cutA xs none (some (-1))) : y ∈ xs := by
  rw [cut_eq] at h
  exact List.mem_of_mem_take h
theorem okN_tup {k : Nat} {xs : List D} (hl : xs.length ≤ 1000) (h : ∀ y ∈ xs, okN k y) : okN (k + 1) (.tup xs) := ⟨rfl, fun ys e => by cases e; exact ⟨hl, h⟩⟩
theorem okN_flat {x : D} (h : okV x = true) (h2 : isTup x = false) : ∀ k, okN k x
  | 0 => h
  | k + 1 => ⟨h, fun xs e => by rw [e] at h2; cases h2⟩
theorem okN.mem {k : Nat} {xs : List D} (h : okN (k + 1) (.tup xs)) : ∀ y ∈ xs, okN k y := (h.2 xs rfl).2
/-- a machine that is none -/
theorem e_bad {x wd : D} (h : okN 4 x) (hx : isMachD x = false) (a : Addr) (hw : okV wd = true) : m_machine_value [.d (.idn x a), .d wd] [] = .er "InvalidMachine" [("value", .d (.idn x a))] [] := by
  have e1 := fun st => e_machine h st
  rw [hx] at e1
  unfold m_machine_value
  simp only [mFun_eq', mSeq_eq, mIfS, mRet, mRetN, mAsg, mPar, mExpr, mSkip, mBrk, mCnt, mBad, mRaise, outE_ok, outT_ok, outE_er, seqO_nx, seqO_rt, seqO_er, retO_rt, retO_nx, retO_er, Res.bind_ok, Res.bind_er, Res.bind_bad, mVar_0, mVar_s, mVarI_0, mVarI_s, strip_ref, strip_non, strip_bl, strip_int, strip_str, strip_lst, strip_tup, strip_obj, strip_lck, strip_idn, mC, mBin, mUn, mTst, mCB, mCons, mNil, mStar, mAnd, mOr, mAndT, mOrT, mNotT, mIf, mTru, truV, mTup, mLst, ds?, ds?_map, mCall, withD, mFld, getF_o, getF_r, oNeg, oNot, oAbs, oMax, oMin, oI1, oI2, oInt, add_ii, sub_ii, lt_ii, le_ii, gt_ii, ge_ii, eq_ii, ne_ii, gN, gT_tup, gL_lst, gsC_cons, gsN_nil, List.map_cons, List.map_nil, List.length_cons, List.length_nil, List.cons_append, List.nil_append, List.append_nil, List.replicate_zero, List.replicate_succ, List.set_cons_zero, List.set_cons_succ, List.zip_cons_cons, List.zip_nil_right, List.foldl_cons, List.foldl_nil, Option.map_some, Option.map_none, Option.bind_some, Nat.reduceAdd, Nat.reduceSub, Nat.reduceEqDiff, Nat.reduceLT, Nat.reduceLeDiff, String.reduceEq, reduceCtorEq, Int.reduceLT, Int.reduceLE, Int.reduceEq, Int.reduceAdd, Int.reduceSub, Int.reduceNeg, Int.reduceMul, String.reduceBEq, decide_true, decide_false, if_true, if_false, ite_true, ite_false, Bool.false_eq_true, Bool.not_true, Bool.not_false, Bool.true_and, Bool.false_and, Bool.and_true, Bool.and_false, Bool.true_or, Bool.false_or, Bool.or_true, Bool.or_false, e1]
  rfl
theorem e_bad' {x wd : D} (h : okN 4 x) (hx : isMachD x = false) : m_machine_value [.d x, .d wd] [] = .er "InvalidMachine" [("value", .d x)] [] := by
  have e1 := fun st => e_machine h st
  rw [hx] at e1
  unfold m_machine_value
  simp only [mFun_eq', mSeq_eq, mIfS, mRet, mRetN, mAsg, mPar, mExpr, mSkip, mBrk, mCnt, mBad, mRaise, outE_ok, outT_ok, outE_er, seqO_nx, seqO_rt, seqO_er, retO_rt, retO_nx, retO_er, Res.bind_ok, Res.bind_er, Res.bind_bad, mVar_0, mVar_s, mVarI_0, mVarI_s, strip_ref, strip_non, strip_bl, strip_int, strip_str, strip_lst, strip_tup, strip_obj, strip_lck, strip_idn, mC, mBin, mUn, mTst, mCB, mCons, mNil, mStar, mAnd, mOr, mAndT, mOrT, mNotT, mIf, mTru, truV, mTup, mLst, ds?, ds?_map, mCall, withD, mFld, getF_o, getF_r, oNeg, oNot, oAbs, oMax, oMin, oI1, oI2, oInt, add_ii, sub_ii, lt_ii, le_ii, gt_ii, ge_ii, eq_ii, ne_ii, gN, gT_tup, gL_lst, gsC_cons, gsN_nil, List.map_cons, List.map_nil, List.length_cons, List.length_nil, List.cons_append, List.nil_append, List.append_nil, List.replicate_zero, List.replicate_succ, List.set_cons_zero, List.set_cons_succ, List.zip_cons_cons, List.zip_nil_right, List.foldl_cons, List.foldl_nil, Option.map_some, Option.map_none, Option.bind_some, Nat.reduceAdd, Nat.reduceSub, Nat.reduceEqDiff, Nat.reduceLT, Nat.reduceLeDiff, String.reduceEq, reduceCtorEq, Int.reduceLT, Int.reduceLE, Int.reduceEq, Int.reduceAdd, Int.reduceSub, Int.reduceNeg, Int.reduceMul, String.reduceBEq, decide_true, decide_false, if_true, if_false, ite_true, ite_false, Bool.false_eq_true, Bool.not_true, Bool.not_false, Bool.true_and, Bool.false_and, Bool.and_true, Bool.and_false, Bool.true_or, Bool.false_or, Bool.or_true, Bool.or_false, strip_ok' h.v, e1]
  rfl
theorem e_no_machine {x wd : D} (h : okN 4 x) (hx : isMachD x = false) (hw : okV wd = true) (hk : isSeqD x = true ∨ x = .non ∨ x = .int 4) (st : Sto) : pureF m_l_no_machine [.d x, .d wd] st = .ok (.d (.bl true)) st := by
  refine pureF_d (st1 := []) rfl ?_
  unfold m_l_no_machine
  rw [mFun_eq' 2 3 _ _ _ rfl]
  show retO (b_l_no_machine [some (.d x), some (.d wd), none] []) = _
  rcases hk with hk | rfl | rfl
  · unfold b_l_no_machine
    rw [mId_eq (x := x) (r := .rt (.d (.bl true)) []) rfl (by cases x <;> first | rfl | (cases hk)) fun a => ?_]
    · rfl
    · have p : pureF m_machine_value [.d (.idn x a), .d wd] [] = .er "InvalidMachine" [("value", .d (.idn x a))] [] := pureF_e (st1 := []) rfl (e_bad h hx a hw) rfl
      have q : oEq (.d (.idn x a)) (.d (.idn x a)) [] = .ok (.d (.bl true)) [] := by
        unfold oEq
        rw [if_pos]
        show (isSeqD x && decide (a = a)) = true
        rw [hk]
        simp
      rw [mSeq_eq]
      have t : mTry 2 "InvalidMachine" (mExpr (mCall (withD [] (pureF m_machine_value)) (mCons (mVarI 0) (mCons (mVar 1) mNil)))) (fun fs => (mRet (mBin oEq (mXf fs "value") (mVarI 0)))) [some (.d (.idn x a)), some (.d wd), none] [] = .rt (.d (.bl true)) [] := by
        unfold mTry
        simp only [mFun_eq', mSeq_eq, mIfS, mRet, mRetN, mAsg, mPar, mExpr, mSkip, mBrk, mCnt, mBad, mRaise, outE_ok, outT_ok, outE_er, seqO_nx, seqO_rt, seqO_er, retO_rt, retO_nx, retO_er, Res.bind_ok, Res.bind_er, Res.bind_bad, mVar_0, mVar_s, mVarI_0, mVarI_s, strip_ref, strip_non, strip_bl, strip_int, strip_str, strip_lst, strip_tup, strip_obj, strip_lck, strip_idn, mC, mBin, mUn, mTst, mCB, mCons, mNil, mStar, mAnd, mOr, mAndT, mOrT, mNotT, mIf, mTru, truV, mTup, mLst, ds?, ds?_map, mCall, withD, mFld, getF_o, getF_r, oNeg, oNot, oAbs, oMax, oMin, oI1, oI2, oInt, add_ii, sub_ii, lt_ii, le_ii, gt_ii, ge_ii, eq_ii, ne_ii, gN, gT_tup, gL_lst, gsC_cons, gsN_nil, List.map_cons, List.map_nil, List.length_cons, List.length_nil, List.cons_append, List.nil_append, List.append_nil, List.replicate_zero, List.replicate_succ, List.set_cons_zero, List.set_cons_succ, List.zip_cons_cons, List.zip_nil_right, List.foldl_cons, List.foldl_nil, Option.map_some, Option.map_none, Option.bind_some, Nat.reduceAdd, Nat.reduceSub, Nat.reduceEqDiff, Nat.reduceLT, Nat.reduceLeDiff, String.reduceEq, reduceCtorEq, Int.reduceLT, Int.reduceLE, Int.reduceEq, Int.reduceAdd, Int.reduceSub, Int.reduceNeg, Int.reduceMul, String.reduceBEq, decide_true, decide_false, if_true, if_false, ite_true, ite_false, Bool.false_eq_true, Bool.not_true, Bool.not_false, Bool.true_and, Bool.false_and, Bool.and_true, Bool.and_false, Bool.true_or, Bool.false_or, Bool.or_true, Bool.or_false, strip_ok' hw, p, mXf, List.lookup, beq_self_eq_true, q]
      show seqO (mTry 2 "InvalidMachine" (mExpr (mCall (withD [] (pureF m_machine_value)) (mCons (mVarI 0) (mCons (mVar 1) mNil)))) (fun fs => (mRet (mBin oEq (mXf fs "value") (mVarI 0)))) [some (.d (.idn x a)), some (.d wd), none] []) _ = _
      rw [t]
      rfl
  · unfold b_l_no_machine
    rw [mId_flat (x := .non) rfl rfl, mSeq_eq]
    have p : pureF m_machine_value [.d .non, .d wd] [] = .er "InvalidMachine" [("value", .d .non)] [] := pureF_e (st1 := []) rfl (e_bad' h hx) rfl
    have q : oEq (.d .non) (.d .non) [] = .ok (.d (.bl true)) [] := rfl
    unfold mTry
    simp only [mFun_eq', mSeq_eq, mIfS, mRet, mRetN, mAsg, mPar, mExpr, mSkip, mBrk, mCnt, mBad, mRaise, outE_ok, outT_ok, outE_er, seqO_nx, seqO_rt, seqO_er, retO_rt, retO_nx, retO_er, Res.bind_ok, Res.bind_er, Res.bind_bad, mVar_0, mVar_s, mVarI_0, mVarI_s, strip_ref, strip_non, strip_bl, strip_int, strip_str, strip_lst, strip_tup, strip_obj, strip_lck, strip_idn, mC, mBin, mUn, mTst, mCB, mCons, mNil, mStar, mAnd, mOr, mAndT, mOrT, mNotT, mIf, mTru, truV, mTup, mLst, ds?, ds?_map, mCall, withD, mFld, getF_o, getF_r, oNeg, oNot, oAbs, oMax, oMin, oI1, oI2, oInt, add_ii, sub_ii, lt_ii, le_ii, gt_ii, ge_ii, eq_ii, ne_ii, gN, gT_tup, gL_lst, gsC_cons, gsN_nil, List.map_cons, List.map_nil, List.length_cons, List.length_nil, List.cons_append, List.nil_append, List.append_nil, List.replicate_zero, List.replicate_succ, List.set_cons_zero, List.set_cons_succ, List.zip_cons_cons, List.zip_nil_right, List.foldl_cons, List.foldl_nil, Option.map_some, Option.map_none, Option.bind_some, Nat.reduceAdd, Nat.reduceSub, Nat.reduceEqDiff, Nat.reduceLT, Nat.reduceLeDiff, String.reduceEq, reduceCtorEq, Int.reduceLT, Int.reduceLE, Int.reduceEq, Int.reduceAdd, Int.reduceSub, Int.reduceNeg, Int.reduceMul, String.reduceBEq, decide_true, decide_false, if_true, if_false, ite_true, ite_false, Bool.false_eq_true, Bool.not_true, Bool.not_false, Bool.true_and, Bool.false_and, Bool.and_true, Bool.and_false, Bool.true_or, Bool.false_or, Bool.or_true, Bool.or_false, strip_ok' hw, p, mXf, List.lookup, beq_self_eq_true, q]
  · unfold b_l_no_machine
    rw [mId_flat (x := .int 4) rfl rfl, mSeq_eq]
    have p : pureF m_machine_value [.d (.int 4), .d wd] [] = .er "InvalidMachine" [("value", .d (.int 4))] [] := pureF_e (st1 := []) rfl (e_bad' h hx) rfl
    unfold mTry
    simp only [mFun_eq', mSeq_eq, mIfS, mRet, mRetN, mAsg, mPar, mExpr, mSkip, mBrk, mCnt, mBad, mRaise, outE_ok, outT_ok, outE_er, seqO_nx, seqO_rt, seqO_er, retO_rt, retO_nx, retO_er, Res.bind_ok, Res.bind_er, Res.bind_bad, mVar_0, mVar_s, mVarI_0, mVarI_s, strip_ref, strip_non, strip_bl, strip_int, strip_str, strip_lst, strip_tup, strip_obj, strip_lck, strip_idn, mC, mBin, mUn, mTst, mCB, mCons, mNil, mStar, mAnd, mOr, mAndT, mOrT, mNotT, mIf, mTru, truV, mTup, mLst, ds?, ds?_map, mCall, withD, mFld, getF_o, getF_r, oNeg, oNot, oAbs, oMax, oMin, oI1, oI2, oInt, add_ii, sub_ii, lt_ii, le_ii, gt_ii, ge_ii, eq_ii, ne_ii, gN, gT_tup, gL_lst, gsC_cons, gsN_nil, List.map_cons, List.map_nil, List.length_cons, List.length_nil, List.cons_append, List.nil_append, List.append_nil, List.replicate_zero, List.replicate_succ, List.set_cons_zero, List.set_cons_succ, List.zip_cons_cons, List.zip_nil_right, List.foldl_cons, List.foldl_nil, Option.map_some, Option.map_none, Option.bind_some, Nat.reduceAdd, Nat.reduceSub, Nat.reduceEqDiff, Nat.reduceLT, Nat.reduceLeDiff, String.reduceEq, reduceCtorEq, Int.reduceLT, Int.reduceLE, Int.reduceEq, Int.reduceAdd, Int.reduceSub, Int.reduceNeg, Int.reduceMul, String.reduceBEq, decide_true, decide_false, if_true, if_false, ite_true, ite_false, Bool.false_eq_true, Bool.not_true, Bool.not_false, Bool.true_and, Bool.false_and, Bool.and_true, Bool.and_false, Bool.true_or, Bool.false_or, Bool.or_true, Bool.or_false, strip_ok' hw, p, mXf, List.lookup, beq_self_eq_true]
theorem e_no_word {N n : Nat} {f l : List D} {ms : List (List (List D))} {wd : D} (G : Good N f ms l) (S : Shape n f ms l) (hw : okN 1 wd) (hb : isWordD ms.length wd = false) (he : oEq (.d wd) (.d wd) [] = .ok (.d (.bl true)) []) (st : Sto) : pureF m_l_no_word [.d (machD f ms l), .d wd] st = .ok (.d (.bl true)) st := by
  refine pureF_d (st1 := []) rfl ?_
  obtain ⟨om, im⟩ := G.ok4 S
  have e1 := fun st => e_machine om st
  rw [im] at e1
  have e2 := fun st => e_word hw ms.length st
  rw [hb] at e2
  have sm : strip (.d (machD f ms l)) = .d (machD f ms l) := rfl
  have ix : oIx (.d (machD f ms l)) (.d (.int 1)) [] = .ok (.d (.tup (ms.map matD))) [] := ix_tup [.tup f, .tup (ms.map matD), .tup l] 1 (.tup (ms.map matD)) [] rfl
  have ln : oLen [.d (.tup (ms.map matD))] [] = .ok (.d (.int ms.length)) [] := by
    show Res.ok (Va.d (.int ((ms.map matD).length : Nat))) _ = _
    rw [List.length_map]
  have run : m_machine_value [.d (machD f ms l), .d wd] [] = .er "InvalidFigures" [("value", .d wd)] [] := by
    unfold m_machine_value
    simp only [mFun_eq', mSeq_eq, mIfS, mRet, mRetN, mAsg, mPar, mExpr, mSkip, mBrk, mCnt, mBad, mRaise, outE_ok, outT_ok, outE_er, seqO_nx, seqO_rt, seqO_er, retO_rt, retO_nx, retO_er, Res.bind_ok, Res.bind_er, Res.bind_bad, mVar_0, mVar_s, mVarI_0, mVarI_s, strip_ref, strip_non, strip_bl, strip_int, strip_str, strip_lst, strip_tup, strip_obj, strip_lck, strip_idn, mC, mBin, mUn, mTst, mCB, mCons, mNil, mStar, mAnd, mOr, mAndT, mOrT, mNotT, mIf, mTru, truV, mTup, mLst, ds?, ds?_map, mCall, withD, mFld, getF_o, getF_r, oNeg, oNot, oAbs, oMax, oMin, oI1, oI2, oInt, add_ii, sub_ii, lt_ii, le_ii, gt_ii, ge_ii, eq_ii, ne_ii, gN, gT_tup, gL_lst, gsC_cons, gsN_nil, List.map_cons, List.map_nil, List.length_cons, List.length_nil, List.cons_append, List.nil_append, List.append_nil, List.replicate_zero, List.replicate_succ, List.set_cons_zero, List.set_cons_succ, List.zip_cons_cons, List.zip_nil_right, List.foldl_cons, List.foldl_nil, Option.map_some, Option.map_none, Option.bind_some, Nat.reduceAdd, Nat.reduceSub, Nat.reduceEqDiff, Nat.reduceLT, Nat.reduceLeDiff, String.reduceEq, reduceCtorEq, Int.reduceLT, Int.reduceLE, Int.reduceEq, Int.reduceAdd, Int.reduceSub, Int.reduceNeg, Int.reduceMul, String.reduceBEq, decide_true, decide_false, if_true, if_false, ite_true, ite_false, Bool.false_eq_true, Bool.not_true, Bool.not_false, Bool.true_and, Bool.false_and, Bool.and_true, Bool.and_false, Bool.true_or, Bool.false_or, Bool.or_true, Bool.or_false, sm, e1, ix, ln, strip_ok' hw.v, e2]
    rfl
  have p : pureF m_machine_value [.d (machD f ms l), .d wd] [] = .er "InvalidFigures" [("value", .d wd)] [] := pureF_e (st1 := []) rfl run rfl
  unfold m_l_no_word
  simp only [mFun_eq', mSeq_eq, mIfS, mRet, mRetN, mAsg, mPar, mExpr, mSkip, mBrk, mCnt, mBad, mRaise, outE_ok, outT_ok, outE_er, seqO_nx, seqO_rt, seqO_er, retO_rt, retO_nx, retO_er, Res.bind_ok, Res.bind_er, Res.bind_bad, mVar_0, mVar_s, mVarI_0, mVarI_s, strip_ref, strip_non, strip_bl, strip_int, strip_str, strip_lst, strip_tup, strip_obj, strip_lck, strip_idn, mC, mBin, mUn, mTst, mCB, mCons, mNil, mStar, mAnd, mOr, mAndT, mOrT, mNotT, mIf, mTru, truV, mTup, mLst, ds?, ds?_map, mCall, withD, mFld, getF_o, getF_r, oNeg, oNot, oAbs, oMax, oMin, oI1, oI2, oInt, add_ii, sub_ii, lt_ii, le_ii, gt_ii, ge_ii, eq_ii, ne_ii, gN, gT_tup, gL_lst, gsC_cons, gsN_nil, List.map_cons, List.map_nil, List.length_cons, List.length_nil, List.cons_append, List.nil_append, List.append_nil, List.replicate_zero, List.replicate_succ, List.set_cons_zero, List.set_cons_succ, List.zip_cons_cons, List.zip_nil_right, List.foldl_cons, List.foldl_nil, Option.map_some, Option.map_none, Option.bind_some, Nat.reduceAdd, Nat.reduceSub, Nat.reduceEqDiff, Nat.reduceLT, Nat.reduceLeDiff, String.reduceEq, reduceCtorEq, Int.reduceLT, Int.reduceLE, Int.reduceEq, Int.reduceAdd, Int.reduceSub, Int.reduceNeg, Int.reduceMul, String.reduceBEq, decide_true, decide_false, if_true, if_false, ite_true, ite_false, Bool.false_eq_true, Bool.not_true, Bool.not_false, Bool.true_and, Bool.false_and, Bool.and_true, Bool.and_false, Bool.true_or, Bool.false_or, Bool.or_true, Bool.or_false, mTry, sm, strip_ok' hw.v, p, mXf, List.lookup, beq_self_eq_true, he]

theorem e_refusals {n s : Nat} {X : Int × Nat → D} {es ls : List (Int × Nat)} {Ms : List (List (List (Int × Nat)))} (T : Dat n s X es Ms ls) (hM : 0 < Ms.length) (st : Sto) :
    pureF m_l_refusals [.d (machD (es.map X) (shM Ms) (ls.map sh)), .d (.int n), .d (.int Ms.length)] st = .ok (.d (.bl true)) st := by
  have G := T.good
  have S := T.shape
  have hM' : 0 < (shM Ms).length := by rw [List.length_map]; exact hM
  rw [show (Ms.length : Int) = ((shM Ms).length : Nat) by rw [List.length_map]]
  generalize es.map X = f at G S ⊢
  generalize ls.map sh = l at G S ⊢
  generalize shM Ms = ms at G S hM' ⊢
  refine pureF_d (st1 := []) rfl ?_
  obtain ⟨om, im⟩ := G.ok4 S
  have of : okN 3 (.tup f) := om.mem _ (by simp)
  have omm : okN 3 (.tup (ms.map matD)) := om.mem _ (by simp)
  have ol : okN 3 (.tup l) := om.mem _ (by simp)
  have nn : n ≤ 4 := by have := S.f; have := G.ln; omega
  have m4 : ms.length ≤ 4 := G.ln.2.2.1
  have fl := S.f
  have ll := S.l
  have e3 : ∀ {a b c : D}, okN 3 a → okN 3 b → okN 3 c → okN 4 (.tup [a, b, c]) := fun ha hb hc => okN_tup (by show 3 ≤ 1000; decide) fun y hy => by
    simp only [List.mem_cons, List.not_mem_nil, or_false] at hy
    rcases hy with rfl | rfl | rfl <;> assumption
  have app : ∀ {xs : List D} {x : D}, xs.length ≤ 100 → (∀ y ∈ xs, okN 2 y) → okN 2 x → okN 3 (.tup (xs ++ [x])) := fun hl h hx => okN_tup (by rw [List.length_append]; show _ + 1 ≤ 1000; omega) fun y hy => by
    rcases List.mem_append.mp hy with hy | hy
    · exact h y hy
    · rw [List.mem_singleton.mp hy]; exact hx
  have sw : okV (.tup [.int ms.length]) = true := rfl
  have bad : ∀ x, okN 4 x → isMachD x = false → (isSeqD x = true ∨ x = .non ∨ x = .int 4) → ∀ st, pureF m_l_no_machine [.d x, .d (.tup [.int ms.length])] st = .ok (.d (.bl true)) st := fun x h1 h2 h3 st => e_no_machine h1 h2 sw h3 st
  have flat2 : ∀ x : D, okV x = true → isTup x = false → okN 2 x := fun x h h2 => okN_flat h h2 2
  have allT : ∀ l : List D, oAll [.d (.lst (l.map fun _ => .bl true))] [] = .ok (.d (.bl true)) [] := fun l => by
    rw [all_map l (fun _ => true)]
    have : l.all (fun _ => true) = true := List.all_eq_true.mpr fun _ _ => rfl
    rw [this]
  have all : ∀ W : List D, W.length ≤ 100 → (∀ x ∈ W, okN 4 x ∧ isMachD x = false ∧ (isSeqD x = true ∨ x = .non ∨ x = .int 4)) → ∀ u, ∃ R : List D, mLc [8] (mItS (mBin oAdd (mVar 6) (mLst (mCons (mC .non) (mCons (mC (.int 4)) mNil))))) (gN 8) mYes (mCall (withD [] (pureF m_l_no_machine)) (mCons (mVar 8) (mCons (mTup (mCons (mVar 2) mNil)) mNil))) [some (.d (machD f ms l)), some (.d (.int n)), some (.d (.int ms.length)), some (.d (.tup f)), some (.d (.tup (ms.map matD))), some (.d (.tup l)), some (.d (.lst W)), u, none] [] = .ok (.d (.lst R)) [] ∧ oAll [.d (.lst R)] [] = .ok (.d (.bl true)) [] := fun W hW hx u => by
    refine ⟨(W ++ [D.non, D.int 4]).map fun _ => .bl true, ?_, allT _⟩
    have ad : oAdd (.d (.lst W)) (.d (.lst [D.non, D.int 4])) [] = .ok (.d (.lst (W ++ [D.non, D.int 4]))) [] := if_pos (by show W.length + 2 ≤ 1000000; omega)
    refine mLc_map (W ++ [D.non, D.int 4]) Va.d _ (itS_lst (by simp only [mFun_eq', mSeq_eq, mIfS, mRet, mRetN, mAsg, mPar, mExpr, mSkip, mBrk, mCnt, mBad, mRaise, outE_ok, outT_ok, outE_er, seqO_nx, seqO_rt, seqO_er, retO_rt, retO_nx, retO_er, Res.bind_ok, Res.bind_er, Res.bind_bad, mVar_0, mVar_s, mVarI_0, mVarI_s, strip_ref, strip_non, strip_bl, strip_int, strip_str, strip_lst, strip_tup, strip_obj, strip_lck, strip_idn, mC, mBin, mUn, mTst, mCB, mCons, mNil, mStar, mAnd, mOr, mAndT, mOrT, mNotT, mIf, mTru, truV, mTup, mLst, ds?, ds?_map, mCall, withD, mFld, getF_o, getF_r, oNeg, oNot, oAbs, oMax, oMin, oI1, oI2, oInt, add_ii, sub_ii, lt_ii, le_ii, gt_ii, ge_ii, eq_ii, ne_ii, gN, gT_tup, gL_lst, gsC_cons, gsN_nil, List.map_cons, List.map_nil, List.length_cons, List.length_nil, List.cons_append, List.nil_append, List.append_nil, List.replicate_zero, List.replicate_succ, List.set_cons_zero, List.set_cons_succ, List.zip_cons_cons, List.zip_nil_right, List.foldl_cons, List.foldl_nil, Option.map_some, Option.map_none, Option.bind_some, Nat.reduceAdd, Nat.reduceSub, Nat.reduceEqDiff, Nat.reduceLT, Nat.reduceLeDiff, String.reduceEq, reduceCtorEq, Int.reduceLT, Int.reduceLE, Int.reduceEq, Int.reduceAdd, Int.reduceSub, Int.reduceNeg, Int.reduceMul, String.reduceBEq, decide_true, decide_false, if_true, if_false, ite_true, ite_false, Bool.false_eq_true, Bool.not_true, Bool.not_false, Bool.true_and, Bool.false_and, Bool.and_true, Bool.and_false, Bool.true_or, Bool.false_or, Bool.or_true, Bool.or_false, cap, ad])) (by rw [List.length_append]; show W.length + 2 ≤ 1000000; omega) fun x hm => ?_
    refine ⟨[some (.d (machD f ms l)), some (.d (.int n)), some (.d (.int ms.length)), some (.d (.tup f)), some (.d (.tup (ms.map matD))), some (.d (.tup l)), some (.d (.lst W)), u, some (.d x)], rfl, ?_⟩
    have hx : okN 4 x ∧ isMachD x = false ∧ (isSeqD x = true ∨ x = .non ∨ x = .int 4) := by
      rcases List.mem_append.mp hm with hm | hm
      · exact hx x hm
      · simp only [List.mem_cons, List.not_mem_nil, or_false] at hm
        rcases hm with rfl | rfl
        · exact ⟨okN_flat rfl rfl 4, rfl, .inr (.inl rfl)⟩
        · exact ⟨okN_flat rfl rfl 4, rfl, .inr (.inr rfl)⟩
    simp only [mFun_eq', mSeq_eq, mIfS, mRet, mRetN, mAsg, mPar, mExpr, mSkip, mBrk, mCnt, mBad, mRaise, outE_ok, outT_ok, outE_er, seqO_nx, seqO_rt, seqO_er, retO_rt, retO_nx, retO_er, Res.bind_ok, Res.bind_er, Res.bind_bad, mVar_0, mVar_s, mVarI_0, mVarI_s, strip_ref, strip_non, strip_bl, strip_int, strip_str, strip_lst, strip_tup, strip_obj, strip_lck, strip_idn, mC, mBin, mUn, mTst, mCB, mCons, mNil, mStar, mAnd, mOr, mAndT, mOrT, mNotT, mIf, mTru, truV, mTup, mLst, ds?, ds?_map, mCall, withD, mFld, getF_o, getF_r, oNeg, oNot, oAbs, oMax, oMin, oI1, oI2, oInt, add_ii, sub_ii, lt_ii, le_ii, gt_ii, ge_ii, eq_ii, ne_ii, gN, gT_tup, gL_lst, gsC_cons, gsN_nil, List.map_cons, List.map_nil, List.length_cons, List.length_nil, List.cons_append, List.nil_append, List.append_nil, List.replicate_zero, List.replicate_succ, List.set_cons_zero, List.set_cons_succ, List.zip_cons_cons, List.zip_nil_right, List.foldl_cons, List.foldl_nil, Option.map_some, Option.map_none, Option.bind_some, Nat.reduceAdd, Nat.reduceSub, Nat.reduceEqDiff, Nat.reduceLT, Nat.reduceLeDiff, String.reduceEq, reduceCtorEq, Int.reduceLT, Int.reduceLE, Int.reduceEq, Int.reduceAdd, Int.reduceSub, Int.reduceNeg, Int.reduceMul, String.reduceBEq, decide_true, decide_false, if_true, if_false, ite_true, ite_false, Bool.false_eq_true, Bool.not_true, Bool.not_false, Bool.true_and, Bool.false_and, Bool.and_true, Bool.and_false, Bool.true_or, Bool.false_or, Bool.or_true, Bool.or_false, strip_ok' hx.1.v, cap, bad x hx.1 hx.2.1 hx.2.2]
  have words : ∀ u v, ∃ R : List D, mLc [7] (mItS (mLst (mCons (mTup (mCons (mVar 2) mNil)) (mCons (mTup (mCons (mC (.int 0)) (mCons (mUn oNeg (mC (.int 1))) mNil))) (mCons (mLst (mCons (mC (.int 0)) mNil)) (mCons (mC .non) (mCons (mTup (mCons (mC (.bl true)) mNil)) (mCons (mC (.int 0)) mNil)))))))) (gN 7) mYes (mCall (withD [] (pureF m_l_no_word)) (mCons (mVar 0) (mCons (mVar 7) mNil))) [some (.d (machD f ms l)), some (.d (.int n)), some (.d (.int ms.length)), some (.d (.tup f)), some (.d (.tup (ms.map matD))), some (.d (.tup l)), u, v, none] [] = .ok (.d (.lst R)) [] ∧ oAll [.d (.lst R)] [] = .ok (.d (.bl true)) [] := fun u v => by
    refine ⟨[D.tup [.int ms.length], .tup [.int 0, .int (-1)], .lst [.int 0], .non, .tup [.bl true], .int 0].map fun _ => .bl true, ?_, allT _⟩
    refine mLc_map [D.tup [.int ms.length], .tup [.int 0, .int (-1)], .lst [.int 0], .non, .tup [.bl true], .int 0] Va.d _ (itS_lst (by simp only [mFun_eq', mSeq_eq, mIfS, mRet, mRetN, mAsg, mPar, mExpr, mSkip, mBrk, mCnt, mBad, mRaise, outE_ok, outT_ok, outE_er, seqO_nx, seqO_rt, seqO_er, retO_rt, retO_nx, retO_er, Res.bind_ok, Res.bind_er, Res.bind_bad, mVar_0, mVar_s, mVarI_0, mVarI_s, strip_ref, strip_non, strip_bl, strip_int, strip_str, strip_lst, strip_tup, strip_obj, strip_lck, strip_idn, mC, mBin, mUn, mTst, mCB, mCons, mNil, mStar, mAnd, mOr, mAndT, mOrT, mNotT, mIf, mTru, truV, mTup, mLst, ds?, ds?_map, mCall, withD, mFld, getF_o, getF_r, oNeg, oNot, oAbs, oMax, oMin, oI1, oI2, oInt, add_ii, sub_ii, lt_ii, le_ii, gt_ii, ge_ii, eq_ii, ne_ii, gN, gT_tup, gL_lst, gsC_cons, gsN_nil, List.map_cons, List.map_nil, List.length_cons, List.length_nil, List.cons_append, List.nil_append, List.append_nil, List.replicate_zero, List.replicate_succ, List.set_cons_zero, List.set_cons_succ, List.zip_cons_cons, List.zip_nil_right, List.foldl_cons, List.foldl_nil, Option.map_some, Option.map_none, Option.bind_some, Nat.reduceAdd, Nat.reduceSub, Nat.reduceEqDiff, Nat.reduceLT, Nat.reduceLeDiff, String.reduceEq, reduceCtorEq, Int.reduceLT, Int.reduceLE, Int.reduceEq, Int.reduceAdd, Int.reduceSub, Int.reduceNeg, Int.reduceMul, String.reduceBEq, decide_true, decide_false, if_true, if_false, ite_true, ite_false, Bool.false_eq_true, Bool.not_true, Bool.not_false, Bool.true_and, Bool.false_and, Bool.and_true, Bool.and_false, Bool.true_or, Bool.false_or, Bool.or_true, Bool.or_false, cap])) (by show 6 ≤ 1000000; decide) fun x hm => ?_
    refine ⟨[some (.d (machD f ms l)), some (.d (.int n)), some (.d (.int ms.length)), some (.d (.tup f)), some (.d (.tup (ms.map matD))), some (.d (.tup l)), u, some (.d x), none], rfl, ?_⟩
    have sm : strip (.d (machD f ms l)) = .d (machD f ms l) := rfl
    have hx : okN 1 x ∧ isWordD ms.length x = false ∧ oEq (.d x) (.d x) [] = .ok (.d (.bl true)) [] := by
      simp only [List.mem_cons, List.not_mem_nil, or_false] at hm
      rcases hm with rfl | rfl | rfl | rfl | rfl | rfl
      · refine ⟨okN_tup (by show 1 ≤ 1000; decide) fun y hy => by rw [List.mem_singleton.mp hy]; rfl, ?_, ?_⟩
        · show ((decide (0 ≤ (ms.length : Int)) && decide ((ms.length : Int) ≤ ms.length - 1)) && true) = false
          rw [decide_eq_false (p := (ms.length : Int) ≤ ms.length - 1) (by omega)]
          simp
        · show (Res.ok (Va.d (.bl (((ms.length : Int) == ms.length) && true))) [] : Res Va) = _
          simp
      · exact ⟨okN_tup (by show 2 ≤ 1000; decide) fun y hy => by simp only [List.mem_cons, List.not_mem_nil, or_false] at hy; rcases hy with rfl | rfl <;> rfl, by simp [isWordD, isBt], rfl⟩
      · exact ⟨okN_flat rfl rfl 1, rfl, rfl⟩
      · exact ⟨okN_flat rfl rfl 1, rfl, rfl⟩
      · exact ⟨okN_tup (by show 1 ≤ 1000; decide) fun y hy => by rw [List.mem_singleton.mp hy]; rfl, rfl, rfl⟩
      · exact ⟨okN_flat rfl rfl 1, rfl, rfl⟩
    simp only [mFun_eq', mSeq_eq, mIfS, mRet, mRetN, mAsg, mPar, mExpr, mSkip, mBrk, mCnt, mBad, mRaise, outE_ok, outT_ok, outE_er, seqO_nx, seqO_rt, seqO_er, retO_rt, retO_nx, retO_er, Res.bind_ok, Res.bind_er, Res.bind_bad, mVar_0, mVar_s, mVarI_0, mVarI_s, strip_ref, strip_non, strip_bl, strip_int, strip_str, strip_lst, strip_tup, strip_obj, strip_lck, strip_idn, mC, mBin, mUn, mTst, mCB, mCons, mNil, mStar, mAnd, mOr, mAndT, mOrT, mNotT, mIf, mTru, truV, mTup, mLst, ds?, ds?_map, mCall, withD, mFld, getF_o, getF_r, oNeg, oNot, oAbs, oMax, oMin, oI1, oI2, oInt, add_ii, sub_ii, lt_ii, le_ii, gt_ii, ge_ii, eq_ii, ne_ii, gN, gT_tup, gL_lst, gsC_cons, gsN_nil, List.map_cons, List.map_nil, List.length_cons, List.length_nil, List.cons_append, List.nil_append, List.append_nil, List.replicate_zero, List.replicate_succ, List.set_cons_zero, List.set_cons_succ, List.zip_cons_cons, List.zip_nil_right, List.foldl_cons, List.foldl_nil, Option.map_some, Option.map_none, Option.bind_some, Nat.reduceAdd, Nat.reduceSub, Nat.reduceEqDiff, Nat.reduceLT, Nat.reduceLeDiff, String.reduceEq, reduceCtorEq, Int.reduceLT, Int.reduceLE, Int.reduceEq, Int.reduceAdd, Int.reduceSub, Int.reduceNeg, Int.reduceMul, String.reduceBEq, decide_true, decide_false, if_true, if_false, ite_true, ite_false, Bool.false_eq_true, Bool.not_true, Bool.not_false, Bool.true_and, Bool.false_and, Bool.and_true, Bool.and_false, Bool.true_or, Bool.false_or, Bool.or_true, Bool.or_false, sm, strip_ok' hx.1.v, e_no_word G S hx.1 hx.2.1 hx.2.2]
  -- the wrong ones
  have b1 : okN 4 (.tup [.tup f, .tup (ms.map matD)]) := okN_tup (by show 2 ≤ 1000; decide) fun y hy => by
    simp only [List.mem_cons, List.not_mem_nil, or_false] at hy
    rcases hy with rfl | rfl <;> assumption
  have b3 : okN 4 (.tup [.tup (f ++ [D.int 1]), .tup (ms.map matD), .tup l]) := e3 (app (by omega) of.mem (flat2 _ rfl rfl)) omm ol
  have b4 : okN 4 (.tup [.tup f, .tup (ms.map matD), .tup (l ++ [D.int 0])]) := e3 of omm (app (by omega) ol.mem (flat2 _ rfl rfl))
  have c3 : isMachD (.tup [.tup (f ++ [D.int 1]), .tup (ms.map matD), .tup l]) = false := by
    show (isRowD (f ++ [D.int 1]).length (.tup (f ++ [D.int 1])) && isRowD (f ++ [D.int 1]).length (.tup l) && _) = false
    have : isRowD (f ++ [D.int 1]).length (.tup l) = false := by
      show (decide ((l.length : Int) = (f ++ [D.int 1]).length) && _) = false
      rw [decide_eq_false (by rw [List.length_append, fl, ll]; show ¬((n : Int) = ((n + 1 : Nat) : Int)); omega)]
      rfl
    rw [this]
    simp
  have c4 : isMachD (.tup [.tup f, .tup (ms.map matD), .tup (l ++ [D.int 0])]) = false := by
    show (isRowD f.length (.tup f) && isRowD f.length (.tup (l ++ [D.int 0])) && _) = false
    have : isRowD f.length (.tup (l ++ [D.int 0])) = false := by
      show (decide (((l ++ [D.int 0]).length : Int) = f.length) && _) = false
      rw [decide_eq_false (by rw [List.length_append, fl, ll]; show ¬(((n + 1 : Nat) : Int) = n); omega)]
      rfl
    rw [this]
    simp
  have W1 : ∀ x ∈ [D.tup [.tup f, .tup (ms.map matD)], .lst [.tup f, .tup (ms.map matD), .tup l], .tup [.tup (f ++ [D.int 1]), .tup (ms.map matD), .tup l], .tup [.tup f, .tup (ms.map matD), .tup (l ++ [D.int 0])]], okN 4 x ∧ isMachD x = false ∧ (isSeqD x = true ∨ x = .non ∨ x = .int 4) := fun x hx => by
    simp only [List.mem_cons, List.not_mem_nil, or_false] at hx
    rcases hx with rfl | rfl | rfl | rfl
    · exact ⟨b1, rfl, .inl rfl⟩
    · exact ⟨okN_flat rfl rfl 4, rfl, .inl rfl⟩
    · exact ⟨b3, c3, .inl rfl⟩
    · exact ⟨b4, c4, .inl rfl⟩
  have sm : strip (.d (machD f ms l)) = .d (machD f ms l) := rfl
  have g3 : gT 3 (gsC (gN 3) (gsC (gN 4) (gsC (gN 5) gsN))) (.d (machD f ms l)) [some (.d (machD f ms l)), some (.d (.int n)), some (.d (.int ms.length)), none, none, none, none, none, none] = some [some (.d (machD f ms l)), some (.d (.int n)), some (.d (.int ms.length)), some (.d (.tup f)), some (.d (.tup (ms.map matD))), some (.d (.tup l)), none, none, none] := rfl
  have tadd : ∀ a b : List D, a.length + b.length ≤ 1000 → oAdd (.d (.tup a)) (.d (.tup b)) [] = .ok (.d (.tup (a ++ b))) [] := fun a b h => if_pos (by show _ ≤ 1000000; omega)
  have ladd : ∀ a b : List D, a.length + b.length ≤ 1000 → oAdd (.d (.lst a)) (.d (.lst b)) [] = .ok (.d (.lst (a ++ b))) [] := fun a b h => if_pos (by show _ ≤ 1000000; omega)
  have a1 := tadd f [.int 1] (by show f.length + 1 ≤ 1000; omega)
  have a2 := tadd l [.int 0] (by show l.length + 1 ≤ 1000; omega)
  by_cases q : 0 < n
  · obtain ⟨m0, h0⟩ : ∃ m0, ms[0]? = some m0 := ⟨_, List.getElem?_eq_getElem hM'⟩
    have mem0 : m0 ∈ ms := List.mem_of_getElem? h0
    have hm0 := S.m m0 mem0
    have len0 : (ms.map matD).length ≤ 4 := by rw [List.length_map]; exact m4
    have ix0 : oIx (.d (.tup (ms.map matD))) (.d (.int 0)) [] = .ok (.d (matD m0)) [] := ix_tup _ _ _ _ (atI_nat (j := 0) (by rw [List.getElem?_map, h0]; rfl))
    have ok0 : okN 2 (matD m0) := omm.mem _ (List.mem_map_of_mem mem0)
    have sl : ∀ xs : List D, oSl (.d (.tup xs)) none (some (-1)) [] = .ok (.d (.tup (cutA xs none (some (-1))))) [] := fun _ => rfl
    have sl0 : oSl (.d (matD m0)) none (some (-1)) [] = .ok (.d (.tup (cutA (m0.map D.tup) none (some (-1))))) [] := rfl
    have lo : oList [.d (.tup f)] [] = .ok (.d (.lst f)) [] := by
      unfold oList
      simp only [itemsOf, ds?_map]
    have cf := cut_len f
    have cl := cut_len l
    have cM := cut_len (ms.map matD)
    have a3 := tadd (cutA (ms.map matD) none (some (-1))) [.tup (cutA (m0.map D.tup) none (some (-1)))] (by show _ + 1 ≤ 1000; omega)
    have a4 := tadd (cutA f none (some (-1))) [.bl true] (by show _ + 1 ≤ 1000; omega)
    have a5 := tadd (cutA l none (some (-1))) [.non] (by show _ + 1 ≤ 1000; omega)
    have a6 := ladd [D.tup [.tup f, .tup (ms.map matD)], .lst [.tup f, .tup (ms.map matD), .tup l], .tup [.tup (f ++ [D.int 1]), .tup (ms.map matD), .tup l], .tup [.tup f, .tup (ms.map matD), .tup (l ++ [D.int 0])]] [.tup [.lst f, .tup (ms.map matD), .tup l], .tup [.tup f, .tup (cutA (ms.map matD) none (some (-1)) ++ [D.tup (cutA (m0.map D.tup) none (some (-1)))]), .tup l]] (by show 4 + 2 ≤ 1000; decide)
    have a7 := ladd ([D.tup [.tup f, .tup (ms.map matD)], .lst [.tup f, .tup (ms.map matD), .tup l], .tup [.tup (f ++ [D.int 1]), .tup (ms.map matD), .tup l], .tup [.tup f, .tup (ms.map matD), .tup (l ++ [D.int 0])]] ++ [D.tup [.lst f, .tup (ms.map matD), .tup l], .tup [.tup f, .tup (cutA (ms.map matD) none (some (-1)) ++ [D.tup (cutA (m0.map D.tup) none (some (-1)))]), .tup l]]) [.tup [.tup (cutA f none (some (-1)) ++ [D.bl true]), .tup (ms.map matD), .tup l], .tup [.tup f, .tup (ms.map matD), .tup (cutA l none (some (-1)) ++ [D.non])]] (by show 6 + 2 ≤ 1000; decide)
    have W2 : ∀ x ∈ ([D.tup [.tup f, .tup (ms.map matD)], .lst [.tup f, .tup (ms.map matD), .tup l], .tup [.tup (f ++ [D.int 1]), .tup (ms.map matD), .tup l], .tup [.tup f, .tup (ms.map matD), .tup (l ++ [D.int 0])]] ++ [D.tup [.lst f, .tup (ms.map matD), .tup l], .tup [.tup f, .tup (cutA (ms.map matD) none (some (-1)) ++ [D.tup (cutA (m0.map D.tup) none (some (-1)))]), .tup l]]) ++ [D.tup [.tup (cutA f none (some (-1)) ++ [D.bl true]), .tup (ms.map matD), .tup l], .tup [.tup f, .tup (ms.map matD), .tup (cutA l none (some (-1)) ++ [D.non])]], okN 4 x ∧ isMachD x = false ∧ (isSeqD x = true ∨ x = .non ∨ x = .int 4) := fun x hx => by
      rcases List.mem_append.mp hx with hx | hx
      · rcases List.mem_append.mp hx with hx | hx
        · exact W1 x hx
        · simp only [List.mem_cons, List.not_mem_nil, or_false] at hx
          rcases hx with rfl | rfl
          · exact ⟨e3 (okN_flat rfl rfl 3) omm ol, rfl, .inl rfl⟩
          · refine ⟨e3 of (app (by omega) (fun y hy => omm.mem y (cut_mem hy)) (okN_tup (by rw [cut_len, List.length_map]; omega) fun y hy => ok0.mem y (cut_mem hy))) ol, ?_, .inl rfl⟩
            show (isRowD f.length (.tup f) && isRowD f.length (.tup l) && (cutA (ms.map matD) none (some (-1)) ++ [D.tup (cutA (m0.map D.tup) none (some (-1)))]).all (isMatD f.length)) = false
            have : isMatD f.length (.tup (cutA (m0.map D.tup) none (some (-1)))) = false := by
              show (decide (((cutA (m0.map D.tup) none (some (-1))).length : Int) = f.length) && _) = false
              rw [decide_eq_false (by rw [cut_len, List.length_map, hm0.1, fl]; omega)]
              rfl
            rw [List.all_append]
            simp [this]
      · simp only [List.mem_cons, List.not_mem_nil, or_false] at hx
        rcases hx with rfl | rfl
        · refine ⟨e3 (app (by omega) (fun y hy => of.mem y (cut_mem hy)) (flat2 _ rfl rfl)) omm ol, ?_, .inl rfl⟩
          show (isRowD (cutA f none (some (-1)) ++ [D.bl true]).length (.tup (cutA f none (some (-1)) ++ [D.bl true])) && _ && _) = false
          have : isRowD (cutA f none (some (-1)) ++ [D.bl true]).length (.tup (cutA f none (some (-1)) ++ [D.bl true])) = false := by
            show (_ && (cutA f none (some (-1)) ++ [D.bl true]).all isE) = false
            rw [List.all_append]
            simp [isE, isI, isRat]
          rw [this]
          rfl
        · refine ⟨e3 of omm (app (by omega) (fun y hy => ol.mem y (cut_mem hy)) (flat2 _ rfl rfl)), ?_, .inl rfl⟩
          show (isRowD f.length (.tup f) && isRowD f.length (.tup (cutA l none (some (-1)) ++ [D.non])) && _) = false
          have : isRowD f.length (.tup (cutA l none (some (-1)) ++ [D.non])) = false := by
            show (_ && (cutA l none (some (-1)) ++ [D.non]).all isE) = false
            rw [List.all_append]
            simp [isE, isI, isRat]
          rw [this]
          simp
    have q' : decide ((0 : Int) < n) = true := decide_eq_true (by omega)
    obtain ⟨R, AL, RA⟩ := all _ (by show 6 + 2 ≤ 100; decide) W2 none
    obtain ⟨R2, WL, RB⟩ := words (some (.d (.lst (([D.tup [.tup f, .tup (ms.map matD)], .lst [.tup f, .tup (ms.map matD), .tup l], .tup [.tup (f ++ [D.int 1]), .tup (ms.map matD), .tup l], .tup [.tup f, .tup (ms.map matD), .tup (l ++ [D.int 0])]] ++ [D.tup [.lst f, .tup (ms.map matD), .tup l], .tup [.tup f, .tup (cutA (ms.map matD) none (some (-1)) ++ [D.tup (cutA (m0.map D.tup) none (some (-1)))]), .tup l]]) ++ [D.tup [.tup (cutA f none (some (-1)) ++ [D.bl true]), .tup (ms.map matD), .tup l], .tup [.tup f, .tup (ms.map matD), .tup (cutA l none (some (-1)) ++ [D.non])]])))) none
    simp only [List.cons_append, List.nil_append] at a6 a7 AL WL
    unfold m_l_refusals
    simp only [mFun_eq', mSeq_eq, mIfS, mRet, mRetN, mAsg, mPar, mExpr, mSkip, mBrk, mCnt, mBad, mRaise, outE_ok, outT_ok, outE_er, seqO_nx, seqO_rt, seqO_er, retO_rt, retO_nx, retO_er, Res.bind_ok, Res.bind_er, Res.bind_bad, mVar_0, mVar_s, mVarI_0, mVarI_s, strip_ref, strip_non, strip_bl, strip_int, strip_str, strip_lst, strip_tup, strip_obj, strip_lck, strip_idn, mC, mBin, mUn, mTst, mCB, mCons, mNil, mStar, mAnd, mOr, mAndT, mOrT, mNotT, mIf, mTru, truV, mTup, mLst, ds?, ds?_map, mCall, withD, mFld, getF_o, getF_r, oNeg, oNot, oAbs, oMax, oMin, oI1, oI2, oInt, add_ii, sub_ii, lt_ii, le_ii, gt_ii, ge_ii, eq_ii, ne_ii, gN, gT_tup, gL_lst, gsC_cons, gsN_nil, List.map_cons, List.map_nil, List.length_cons, List.length_nil, List.cons_append, List.nil_append, List.append_nil, List.replicate_zero, List.replicate_succ, List.set_cons_zero, List.set_cons_succ, List.zip_cons_cons, List.zip_nil_right, List.foldl_cons, List.foldl_nil, Option.map_some, Option.map_none, Option.bind_some, Nat.reduceAdd, Nat.reduceSub, Nat.reduceEqDiff, Nat.reduceLT, Nat.reduceLeDiff, String.reduceEq, reduceCtorEq, Int.reduceLT, Int.reduceLE, Int.reduceEq, Int.reduceAdd, Int.reduceSub, Int.reduceNeg, Int.reduceMul, String.reduceBEq, decide_true, decide_false, if_true, if_false, ite_true, ite_false, Bool.false_eq_true, Bool.not_true, Bool.not_false, Bool.true_and, Bool.false_and, Bool.and_true, Bool.and_false, Bool.true_or, Bool.false_or, Bool.or_true, Bool.or_false, sm, g3, cap, a1, a2, q', lo, mSl, mNo, mPart, sl, sl0, ix0, a3, a4, a5, a6, a7, AL, RA, WL, RB]
  · have q' : decide ((0 : Int) < n) = false := decide_eq_false (by omega)
    obtain ⟨R, AL, RA⟩ := all _ (by show 4 ≤ 100; decide) W1 none
    obtain ⟨R2, WL, RB⟩ := words (some (.d (.lst [D.tup [.tup f, .tup (ms.map matD)], .lst [.tup f, .tup (ms.map matD), .tup l], .tup [.tup (f ++ [D.int 1]), .tup (ms.map matD), .tup l], .tup [.tup f, .tup (ms.map matD), .tup (l ++ [D.int 0])]]))) none
    unfold m_l_refusals
    simp only [mFun_eq', mSeq_eq, mIfS, mRet, mRetN, mAsg, mPar, mExpr, mSkip, mBrk, mCnt, mBad, mRaise, outE_ok, outT_ok, outE_er, seqO_nx, seqO_rt, seqO_er, retO_rt, retO_nx, retO_er, Res.bind_ok, Res.bind_er, Res.bind_bad, mVar_0, mVar_s, mVarI_0, mVarI_s, strip_ref, strip_non, strip_bl, strip_int, strip_str, strip_lst, strip_tup, strip_obj, strip_lck, strip_idn, mC, mBin, mUn, mTst, mCB, mCons, mNil, mStar, mAnd, mOr, mAndT, mOrT, mNotT, mIf, mTru, truV, mTup, mLst, ds?, ds?_map, mCall, withD, mFld, getF_o, getF_r, oNeg, oNot, oAbs, oMax, oMin, oI1, oI2, oInt, add_ii, sub_ii, lt_ii, le_ii, gt_ii, ge_ii, eq_ii, ne_ii, gN, gT_tup, gL_lst, gsC_cons, gsN_nil, List.map_cons, List.map_nil, List.length_cons, List.length_nil, List.cons_append, List.nil_append, List.append_nil, List.replicate_zero, List.replicate_succ, List.set_cons_zero, List.set_cons_succ, List.zip_cons_cons, List.zip_nil_right, List.foldl_cons, List.foldl_nil, Option.map_some, Option.map_none, Option.bind_some, Nat.reduceAdd, Nat.reduceSub, Nat.reduceEqDiff, Nat.reduceLT, Nat.reduceLeDiff, String.reduceEq, reduceCtorEq, Int.reduceLT, Int.reduceLE, Int.reduceEq, Int.reduceAdd, Int.reduceSub, Int.reduceNeg, Int.reduceMul, String.reduceBEq, decide_true, decide_false, if_true, if_false, ite_true, ite_false, Bool.false_eq_true, Bool.not_true, Bool.not_false, Bool.true_and, Bool.false_and, Bool.and_true, Bool.and_false, Bool.true_or, Bool.false_or, Bool.or_true, Bool.or_false, sm, g3, cap, a1, a2, q', AL, RA, WL, RB]

theorem unmap {α : Type} {g : α → D} {P : α → Prop} : ∀ {ds : List D}, (∀ y ∈ ds, ∃ e, y = g e ∧ P e) → ∃ es : List α, ds = es.map g ∧ ∀ e ∈ es, P e
  | [], _ => ⟨[], rfl, fun e he => by cases he⟩
  | y :: ds, h => by
    obtain ⟨e, rfl, p⟩ := h y (List.mem_cons_self ..)
    obtain ⟨es, rfl, q⟩ := unmap (ds := ds) fun z hz => h z (List.mem_cons_of_mem _ hz)
    exact ⟨e :: es, rfl, fun z hz => by
      rcases List.mem_cons.mp hz with rfl | hz
      · exact p
      · exact q z hz⟩
def Ent (e : Int × Nat) : Prop := Ok 1 e ∧ Bd 10 (sc 1 e)
theorem ent_of {e : Int × Nat} (h : Ok 1 e ∧ Bd 3 e.1) : Ent e := by
  refine ⟨h.1, (h.2.mul (b := 4) ?_).mono (by decide)⟩
  unfold Bd
  rw [Int.natAbs_natCast]
  exact Nat.lt_of_le_of_lt (Nat.div_le_self ..) (by decide)
noncomputable abbrev entC : ME := mLc [15] (mItR1 (mCons (mVar 3) mNil)) (gN 15) mYes (mCall (withD [] m_l_entry) (mCons (mVar 2) mNil))
theorem row_draw {k n : Nat} {ρ : Ev} {st : Sto} (P : PoolAt k st) (hn : n ≤ 100) (h2 : ∀ x st, mVar 2 ((wipeE ρ [15]).set 15 x) st = .ok (.ref k) st) (h3 : ∀ st, mVar 3 ρ st = .ok (.d (.int n)) st) :
    ∃ (es : List (Int × Nat)) (st1 : Sto), entC ρ st = .ok (.d (rowE es)) st1 ∧ (es.length = n ∧ ∀ e ∈ es, Ent e) ∧ PoolAt k st1 := by
  obtain ⟨ds, st1, h1, l1, r1, P1⟩ := mLc_inv (I := PoolAt k) (R := fun y => ∃ e, y = eD e ∧ Ent e) (own := [15]) (mi := mItR1 (mCons (mVar 3) mNil)) (tg := gN 15) (te := mCall (withD [] m_l_entry) (mCons (mVar 2) mNil)) (ρ := ρ) (st := st) (itR1 (n := n) (by simp only [mFun_eq', mSeq_eq, mIfS, mRet, mRetN, mAsg, mPar, mExpr, mSkip, mBrk, mCnt, mBad, mRaise, outE_ok, outT_ok, outE_er, seqO_nx, seqO_rt, seqO_er, retO_rt, retO_nx, retO_er, Res.bind_ok, Res.bind_er, Res.bind_bad, mVar_0, mVar_s, mVarI_0, mVarI_s, strip_ref, strip_non, strip_bl, strip_int, strip_str, strip_lst, strip_tup, strip_obj, strip_lck, strip_idn, mC, mBin, mUn, mTst, mCB, mCons, mNil, mStar, mAnd, mOr, mAndT, mOrT, mNotT, mIf, mTru, truV, mTup, mLst, ds?, ds?_map, mCall, withD, mFld, getF_o, getF_r, oNeg, oNot, oAbs, oMax, oMin, oI1, oI2, oInt, add_ii, sub_ii, lt_ii, le_ii, gt_ii, ge_ii, eq_ii, ne_ii, gN, gT_tup, gL_lst, gsC_cons, gsN_nil, List.map_cons, List.map_nil, List.length_cons, List.length_nil, List.cons_append, List.nil_append, List.append_nil, List.replicate_zero, List.replicate_succ, List.set_cons_zero, List.set_cons_succ, List.zip_cons_cons, List.zip_nil_right, List.foldl_cons, List.foldl_nil, Option.map_some, Option.map_none, Option.bind_some, Nat.reduceAdd, Nat.reduceSub, Nat.reduceEqDiff, Nat.reduceLT, Nat.reduceLeDiff, String.reduceEq, reduceCtorEq, Int.reduceLT, Int.reduceLE, Int.reduceEq, Int.reduceAdd, Int.reduceSub, Int.reduceNeg, Int.reduceMul, String.reduceBEq, decide_true, decide_false, if_true, if_false, ite_true, ite_false, Bool.false_eq_true, Bool.not_true, Bool.not_false, Bool.true_and, Bool.false_and, Bool.and_true, Bool.and_false, Bool.true_or, Bool.false_or, Bool.or_true, Bool.or_false, h3]) (by omega)) (by rw [rangeV_len]; show _ ≤ 1000000; omega) P fun x hx st hI => by
    obtain ⟨e, st2, a, b, c, _⟩ := e_entry hI
    refine ⟨_, eD e, st2, rfl, ?_, ⟨e, rfl, ent_of b⟩, c⟩
    simp only [mFun_eq', mSeq_eq, mIfS, mRet, mRetN, mAsg, mPar, mExpr, mSkip, mBrk, mCnt, mBad, mRaise, outE_ok, outT_ok, outE_er, seqO_nx, seqO_rt, seqO_er, retO_rt, retO_nx, retO_er, Res.bind_ok, Res.bind_er, Res.bind_bad, mVar_0, mVar_s, mVarI_0, mVarI_s, strip_ref, strip_non, strip_bl, strip_int, strip_str, strip_lst, strip_tup, strip_obj, strip_lck, strip_idn, mC, mBin, mUn, mTst, mCB, mCons, mNil, mStar, mAnd, mOr, mAndT, mOrT, mNotT, mIf, mTru, truV, mTup, mLst, ds?, ds?_map, mCall, withD, mFld, getF_o, getF_r, oNeg, oNot, oAbs, oMax, oMin, oI1, oI2, oInt, add_ii, sub_ii, lt_ii, le_ii, gt_ii, ge_ii, eq_ii, ne_ii, gN, gT_tup, gL_lst, gsC_cons, gsN_nil, List.map_cons, List.map_nil, List.length_cons, List.length_nil, List.cons_append, List.nil_append, List.append_nil, List.replicate_zero, List.replicate_succ, List.set_cons_zero, List.set_cons_succ, List.zip_cons_cons, List.zip_nil_right, List.foldl_cons, List.foldl_nil, Option.map_some, Option.map_none, Option.bind_some, Nat.reduceAdd, Nat.reduceSub, Nat.reduceEqDiff, Nat.reduceLT, Nat.reduceLeDiff, String.reduceEq, reduceCtorEq, Int.reduceLT, Int.reduceLE, Int.reduceEq, Int.reduceAdd, Int.reduceSub, Int.reduceNeg, Int.reduceMul, String.reduceBEq, decide_true, decide_false, if_true, if_false, ite_true, ite_false, Bool.false_eq_true, Bool.not_true, Bool.not_false, Bool.true_and, Bool.false_and, Bool.and_true, Bool.and_false, Bool.true_or, Bool.false_or, Bool.or_true, Bool.or_false, h2, a]
  obtain ⟨es, rfl, q⟩ := unmap r1
  refine ⟨es, st1, h1, ⟨?_, q⟩, P1⟩
  rw [List.length_map, rangeV_len] at l1
  exact l1
/-- the slots of law -/
abbrev V (a0 a1 a2 a3 a4 a5 a6 a7 a8 a9 a10 a11 a12 a13 a14 a15 a16 a17 : Option Va) : Ev := [a0, a1, a2, a3, a4, a5, a6, a7, a8, a9, a10, a11, a12, a13, a14, a15, a16, a17]
section
variable {a0 a1 a2 a3 a4 a5 a6 a7 a8 a9 a10 a11 a12 a13 a14 a15 a16 a17 : Option Va}
theorem mats_draw {k n sz : Nat} {st : Sto} (P : PoolAt k st) (hn : n ≤ 100) (hs : sz ≤ 100) :
    ∃ (Ms : List (List (List (Int × Nat)))) (st1 : Sto), mLc [7] (mItR1 (mCons (mVar 4) mNil)) (gN 7) mYes (mLc [8] (mItR1 (mCons (mVar 3) mNil)) (gN 8) mYes entC) (V a0 a1 (some (.ref k)) (some (.d (.int n))) (some (.d (.int sz))) a5 a6 a7 a8 a9 a10 a11 a12 a13 a14 a15 a16 a17) st = .ok (.d (.lst (Ms.map matE))) st1 ∧ (Ms.length = sz ∧ ∀ M ∈ Ms, M.length = n ∧ ∀ r ∈ M, r.length = n ∧ ∀ e ∈ r, Ent e) ∧ PoolAt k st1 := by
  obtain ⟨ds, st1, h1, l1, r1, P1⟩ := mLc_inv (I := PoolAt k) (R := fun y => ∃ M, y = matE M ∧ M.length = n ∧ ∀ r ∈ M, r.length = n ∧ ∀ e ∈ r, Ent e) (own := [7]) (mi := mItR1 (mCons (mVar 4) mNil)) (tg := gN 7) (te := mLc [8] (mItR1 (mCons (mVar 3) mNil)) (gN 8) mYes entC) (ρ := V a0 a1 (some (.ref k)) (some (.d (.int n))) (some (.d (.int sz))) a5 a6 a7 a8 a9 a10 a11 a12 a13 a14 a15 a16 a17) (st := st) (itR1 (n := sz) (by simp only [V]; simp only [mFun_eq', mSeq_eq, mIfS, mRet, mRetN, mAsg, mPar, mExpr, mSkip, mBrk, mCnt, mBad, mRaise, outE_ok, outT_ok, outE_er, seqO_nx, seqO_rt, seqO_er, retO_rt, retO_nx, retO_er, Res.bind_ok, Res.bind_er, Res.bind_bad, mVar_0, mVar_s, mVarI_0, mVarI_s, strip_ref, strip_non, strip_bl, strip_int, strip_str, strip_lst, strip_tup, strip_obj, strip_lck, strip_idn, mC, mBin, mUn, mTst, mCB, mCons, mNil, mStar, mAnd, mOr, mAndT, mOrT, mNotT, mIf, mTru, truV, mTup, mLst, ds?, ds?_map, mCall, withD, mFld, getF_o, getF_r, oNeg, oNot, oAbs, oMax, oMin, oI1, oI2, oInt, add_ii, sub_ii, lt_ii, le_ii, gt_ii, ge_ii, eq_ii, ne_ii, gN, gT_tup, gL_lst, gsC_cons, gsN_nil, List.map_cons, List.map_nil, List.length_cons, List.length_nil, List.cons_append, List.nil_append, List.append_nil, List.replicate_zero, List.replicate_succ, List.set_cons_zero, List.set_cons_succ, List.zip_cons_cons, List.zip_nil_right, List.foldl_cons, List.foldl_nil, Option.map_some, Option.map_none, Option.bind_some, Nat.reduceAdd, Nat.reduceSub, Nat.reduceEqDiff, Nat.reduceLT, Nat.reduceLeDiff, String.reduceEq, reduceCtorEq, Int.reduceLT, Int.reduceLE, Int.reduceEq, Int.reduceAdd, Int.reduceSub, Int.reduceNeg, Int.reduceMul, String.reduceBEq, decide_true, decide_false, if_true, if_false, ite_true, ite_false, Bool.false_eq_true, Bool.not_true, Bool.not_false, Bool.true_and, Bool.false_and, Bool.and_true, Bool.and_false, Bool.true_or, Bool.false_or, Bool.or_true, Bool.or_false]) (by omega)) (by rw [rangeV_len]; show _ ≤ 1000000; omega) P fun x hx st hI => by
    refine ⟨V a0 a1 (some (.ref k)) (some (.d (.int n))) (some (.d (.int sz))) a5 a6 (some x) a8 a9 a10 a11 a12 a13 a14 a15 a16 a17, ?_⟩
    obtain ⟨ds, st1, h1, l1, r1, P1⟩ := mLc_inv (I := PoolAt k) (R := fun y => ∃ r, y = rowE r ∧ r.length = n ∧ ∀ e ∈ r, Ent e) (own := [8]) (mi := mItR1 (mCons (mVar 3) mNil)) (tg := gN 8) (te := entC) (ρ := V a0 a1 (some (.ref k)) (some (.d (.int n))) (some (.d (.int sz))) a5 a6 (some x) a8 a9 a10 a11 a12 a13 a14 a15 a16 a17) (st := st) (itR1 (n := n) (by simp only [V]; simp only [mFun_eq', mSeq_eq, mIfS, mRet, mRetN, mAsg, mPar, mExpr, mSkip, mBrk, mCnt, mBad, mRaise, outE_ok, outT_ok, outE_er, seqO_nx, seqO_rt, seqO_er, retO_rt, retO_nx, retO_er, Res.bind_ok, Res.bind_er, Res.bind_bad, mVar_0, mVar_s, mVarI_0, mVarI_s, strip_ref, strip_non, strip_bl, strip_int, strip_str, strip_lst, strip_tup, strip_obj, strip_lck, strip_idn, mC, mBin, mUn, mTst, mCB, mCons, mNil, mStar, mAnd, mOr, mAndT, mOrT, mNotT, mIf, mTru, truV, mTup, mLst, ds?, ds?_map, mCall, withD, mFld, getF_o, getF_r, oNeg, oNot, oAbs, oMax, oMin, oI1, oI2, oInt, add_ii, sub_ii, lt_ii, le_ii, gt_ii, ge_ii, eq_ii, ne_ii, gN, gT_tup, gL_lst, gsC_cons, gsN_nil, List.map_cons, List.map_nil, List.length_cons, List.length_nil, List.cons_append, List.nil_append, List.append_nil, List.replicate_zero, List.replicate_succ, List.set_cons_zero, List.set_cons_succ, List.zip_cons_cons, List.zip_nil_right, List.foldl_cons, List.foldl_nil, Option.map_some, Option.map_none, Option.bind_some, Nat.reduceAdd, Nat.reduceSub, Nat.reduceEqDiff, Nat.reduceLT, Nat.reduceLeDiff, String.reduceEq, reduceCtorEq, Int.reduceLT, Int.reduceLE, Int.reduceEq, Int.reduceAdd, Int.reduceSub, Int.reduceNeg, Int.reduceMul, String.reduceBEq, decide_true, decide_false, if_true, if_false, ite_true, ite_false, Bool.false_eq_true, Bool.not_true, Bool.not_false, Bool.true_and, Bool.false_and, Bool.and_true, Bool.and_false, Bool.true_or, Bool.false_or, Bool.or_true, Bool.or_false]) (by omega)) (by rw [rangeV_len]; show _ ≤ 1000000; omega) hI fun x2 hx st hI => by
      refine ⟨V a0 a1 (some (.ref k)) (some (.d (.int n))) (some (.d (.int sz))) a5 a6 (some x) (some x2) a9 a10 a11 a12 a13 a14 a15 a16 a17, ?_⟩
      obtain ⟨es, st1, h, q, P1⟩ := row_draw (k := k) (n := n) (ρ := V a0 a1 (some (.ref k)) (some (.d (.int n))) (some (.d (.int sz))) a5 a6 (some x) (some x2) a9 a10 a11 a12 a13 a14 a15 a16 a17) hI hn (fun _ _ => rfl) (fun _ => rfl)
      exact ⟨_, st1, rfl, h, ⟨es, rfl, q⟩, P1⟩
    obtain ⟨es, rfl, q⟩ := unmap r1
    refine ⟨_, st1, rfl, h1, ⟨es, rfl, ?_, q⟩, P1⟩
    rw [List.length_map, rangeV_len] at l1
    exact l1
  obtain ⟨es, rfl, q⟩ := unmap r1
  refine ⟨es, st1, h1, ⟨?_, q⟩, P1⟩
  rw [List.length_map, rangeV_len] at l1
  exact l1
theorem words_draw {k sz : Nat} {st : Sto} (P : PoolAt k st) (hs : sz ≤ 100) (h0 : 0 < sz) :
    ∃ (w0 w1 : List Nat) (st1 : Sto), mLc [14] (mItR1 (mCons (mC (.int 2)) mNil)) (gN 14) mYes (mCB oTuple (mCons (mLc [16] (mItR1 (mCons (mCall (withD [] m_l_draw) (mCons (mVar 2) (mCons (mC (.int 6)) mNil))) mNil)) (gN 16) mYes (mCall (withD [] m_l_draw) (mCons (mVar 2) (mCons (mVar 4) mNil)))) mNil)) (V a0 a1 (some (.ref k)) a3 (some (.d (.int sz))) a5 a6 a7 a8 a9 a10 a11 a12 a13 a14 a15 a16 a17) st = .ok (.d (.lst [wordD w0, wordD w1])) st1 ∧ ((w0.length ≤ 5 ∧ ∀ i ∈ w0, i < sz) ∧ (w1.length ≤ 5 ∧ ∀ i ∈ w1, i < sz)) ∧ PoolAt k st1 := by
  obtain ⟨ds, st1, h1, l1, r1, P1⟩ := mLc_inv (I := PoolAt k) (R := fun y => ∃ w, y = wordD w ∧ w.length ≤ 5 ∧ ∀ i ∈ w, i < sz) (own := [14]) (mi := mItR1 (mCons (mC (.int 2)) mNil)) (tg := gN 14) (te := mCB oTuple (mCons (mLc [16] (mItR1 (mCons (mCall (withD [] m_l_draw) (mCons (mVar 2) (mCons (mC (.int 6)) mNil))) mNil)) (gN 16) mYes (mCall (withD [] m_l_draw) (mCons (mVar 2) (mCons (mVar 4) mNil)))) mNil)) (ρ := V a0 a1 (some (.ref k)) a3 (some (.d (.int sz))) a5 a6 a7 a8 a9 a10 a11 a12 a13 a14 a15 a16 a17) (st := st) (itR1 (n := 2) (by simp only [mFun_eq', mSeq_eq, mIfS, mRet, mRetN, mAsg, mPar, mExpr, mSkip, mBrk, mCnt, mBad, mRaise, outE_ok, outT_ok, outE_er, seqO_nx, seqO_rt, seqO_er, retO_rt, retO_nx, retO_er, Res.bind_ok, Res.bind_er, Res.bind_bad, mVar_0, mVar_s, mVarI_0, mVarI_s, strip_ref, strip_non, strip_bl, strip_int, strip_str, strip_lst, strip_tup, strip_obj, strip_lck, strip_idn, mC, mBin, mUn, mTst, mCB, mCons, mNil, mStar, mAnd, mOr, mAndT, mOrT, mNotT, mIf, mTru, truV, mTup, mLst, ds?, ds?_map, mCall, withD, mFld, getF_o, getF_r, oNeg, oNot, oAbs, oMax, oMin, oI1, oI2, oInt, add_ii, sub_ii, lt_ii, le_ii, gt_ii, ge_ii, eq_ii, ne_ii, gN, gT_tup, gL_lst, gsC_cons, gsN_nil, List.map_cons, List.map_nil, List.length_cons, List.length_nil, List.cons_append, List.nil_append, List.append_nil, List.replicate_zero, List.replicate_succ, List.set_cons_zero, List.set_cons_succ, List.zip_cons_cons, List.zip_nil_right, List.foldl_cons, List.foldl_nil, Option.map_some, Option.map_none, Option.bind_some, Nat.reduceAdd, Nat.reduceSub, Nat.reduceEqDiff, Nat.reduceLT, Nat.reduceLeDiff, String.reduceEq, reduceCtorEq, Int.reduceLT, Int.reduceLE, Int.reduceEq, Int.reduceAdd, Int.reduceSub, Int.reduceNeg, Int.reduceMul, String.reduceBEq, decide_true, decide_false, if_true, if_false, ite_true, ite_false, Bool.false_eq_true, Bool.not_true, Bool.not_false, Bool.true_and, Bool.false_and, Bool.and_true, Bool.and_false, Bool.true_or, Bool.false_or, Bool.or_true, Bool.or_false]; rfl) (by decide)) (by rw [rangeV_len]; decide) P fun x hx st hI => by
    refine ⟨V a0 a1 (some (.ref k)) a3 (some (.d (.int sz))) a5 a6 a7 a8 a9 a10 a11 a12 a13 (some x) a15 a16 a17, ?_⟩
    obtain ⟨d, st2, g1, g2, g3, P2, _⟩ := draw_ok hI (n := 6) (by decide) (by decide)
    have ed : ((d.toNat : Nat) : Int) = d := Int.toNat_of_nonneg g2
    obtain ⟨ds, st1, h1, l1, r1, P1⟩ := mLc_inv (I := PoolAt k) (R := fun y => ∃ i : Nat, y = .int (i : Int) ∧ i < sz) (own := [16]) (mi := mItR1 (mCons (mCall (withD [] m_l_draw) (mCons (mVar 2) (mCons (mC (.int 6)) mNil))) mNil)) (tg := gN 16) (te := mCall (withD [] m_l_draw) (mCons (mVar 2) (mCons (mVar 4) mNil))) (ρ := V a0 a1 (some (.ref k)) a3 (some (.d (.int sz))) a5 a6 a7 a8 a9 a10 a11 a12 a13 (some x) a15 a16 a17) (st := st) (st0 := st2) (itR1 (n := d.toNat) (by simp only [V]; rw [ed]; simp only [mFun_eq', mSeq_eq, mIfS, mRet, mRetN, mAsg, mPar, mExpr, mSkip, mBrk, mCnt, mBad, mRaise, outE_ok, outT_ok, outE_er, seqO_nx, seqO_rt, seqO_er, retO_rt, retO_nx, retO_er, Res.bind_ok, Res.bind_er, Res.bind_bad, mVar_0, mVar_s, mVarI_0, mVarI_s, strip_ref, strip_non, strip_bl, strip_int, strip_str, strip_lst, strip_tup, strip_obj, strip_lck, strip_idn, mC, mBin, mUn, mTst, mCB, mCons, mNil, mStar, mAnd, mOr, mAndT, mOrT, mNotT, mIf, mTru, truV, mTup, mLst, ds?, ds?_map, mCall, withD, mFld, getF_o, getF_r, oNeg, oNot, oAbs, oMax, oMin, oI1, oI2, oInt, add_ii, sub_ii, lt_ii, le_ii, gt_ii, ge_ii, eq_ii, ne_ii, gN, gT_tup, gL_lst, gsC_cons, gsN_nil, List.map_cons, List.map_nil, List.length_cons, List.length_nil, List.cons_append, List.nil_append, List.append_nil, List.replicate_zero, List.replicate_succ, List.set_cons_zero, List.set_cons_succ, List.zip_cons_cons, List.zip_nil_right, List.foldl_cons, List.foldl_nil, Option.map_some, Option.map_none, Option.bind_some, Nat.reduceAdd, Nat.reduceSub, Nat.reduceEqDiff, Nat.reduceLT, Nat.reduceLeDiff, String.reduceEq, reduceCtorEq, Int.reduceLT, Int.reduceLE, Int.reduceEq, Int.reduceAdd, Int.reduceSub, Int.reduceNeg, Int.reduceMul, String.reduceBEq, decide_true, decide_false, if_true, if_false, ite_true, ite_false, Bool.false_eq_true, Bool.not_true, Bool.not_false, Bool.true_and, Bool.false_and, Bool.and_true, Bool.and_false, Bool.true_or, Bool.false_or, Bool.or_true, Bool.or_false, g_draw, g1]) (by omega)) (by rw [rangeV_len]; show _ ≤ 1000000; omega) P2 fun x2 hx st hI => by
      refine ⟨V a0 a1 (some (.ref k)) a3 (some (.d (.int sz))) a5 a6 a7 a8 a9 a10 a11 a12 a13 (some x) a15 (some x2) a17, ?_⟩
      obtain ⟨c, st3, k1, k2, k3, P3, _⟩ := draw_ok hI (n := sz) (by omega) (by omega)
      have ec : ((c.toNat : Nat) : Int) = c := Int.toNat_of_nonneg k2
      refine ⟨.int c, st3, rfl, ?_, ⟨c.toNat, by rw [ec], by omega⟩, P3⟩
      simp only [V]
      simp only [mFun_eq', mSeq_eq, mIfS, mRet, mRetN, mAsg, mPar, mExpr, mSkip, mBrk, mCnt, mBad, mRaise, outE_ok, outT_ok, outE_er, seqO_nx, seqO_rt, seqO_er, retO_rt, retO_nx, retO_er, Res.bind_ok, Res.bind_er, Res.bind_bad, mVar_0, mVar_s, mVarI_0, mVarI_s, strip_ref, strip_non, strip_bl, strip_int, strip_str, strip_lst, strip_tup, strip_obj, strip_lck, strip_idn, mC, mBin, mUn, mTst, mCB, mCons, mNil, mStar, mAnd, mOr, mAndT, mOrT, mNotT, mIf, mTru, truV, mTup, mLst, ds?, ds?_map, mCall, withD, mFld, getF_o, getF_r, oNeg, oNot, oAbs, oMax, oMin, oI1, oI2, oInt, add_ii, sub_ii, lt_ii, le_ii, gt_ii, ge_ii, eq_ii, ne_ii, gN, gT_tup, gL_lst, gsC_cons, gsN_nil, List.map_cons, List.map_nil, List.length_cons, List.length_nil, List.cons_append, List.nil_append, List.append_nil, List.replicate_zero, List.replicate_succ, List.set_cons_zero, List.set_cons_succ, List.zip_cons_cons, List.zip_nil_right, List.foldl_cons, List.foldl_nil, Option.map_some, Option.map_none, Option.bind_some, Nat.reduceAdd, Nat.reduceSub, Nat.reduceEqDiff, Nat.reduceLT, Nat.reduceLeDiff, String.reduceEq, reduceCtorEq, Int.reduceLT, Int.reduceLE, Int.reduceEq, Int.reduceAdd, Int.reduceSub, Int.reduceNeg, Int.reduceMul, String.reduceBEq, decide_true, decide_false, if_true, if_false, ite_true, ite_false, Bool.false_eq_true, Bool.not_true, Bool.not_false, Bool.true_and, Bool.false_and, Bool.and_true, Bool.and_false, Bool.true_or, Bool.false_or, Bool.or_true, Bool.or_false, g_draw, k1]
    obtain ⟨w, rfl, q⟩ := unmap (g := fun (i : Nat) => D.int (i : Int)) r1
    refine ⟨_, st1, rfl, ?_, ⟨w, rfl, ?_, q⟩, P1⟩
    · simp only [mFun_eq', mSeq_eq, mIfS, mRet, mRetN, mAsg, mPar, mExpr, mSkip, mBrk, mCnt, mBad, mRaise, outE_ok, outT_ok, outE_er, seqO_nx, seqO_rt, seqO_er, retO_rt, retO_nx, retO_er, Res.bind_ok, Res.bind_er, Res.bind_bad, mVar_0, mVar_s, mVarI_0, mVarI_s, strip_ref, strip_non, strip_bl, strip_int, strip_str, strip_lst, strip_tup, strip_obj, strip_lck, strip_idn, mC, mBin, mUn, mTst, mCB, mCons, mNil, mStar, mAnd, mOr, mAndT, mOrT, mNotT, mIf, mTru, truV, mTup, mLst, ds?, ds?_map, mCall, withD, mFld, getF_o, getF_r, oNeg, oNot, oAbs, oMax, oMin, oI1, oI2, oInt, add_ii, sub_ii, lt_ii, le_ii, gt_ii, ge_ii, eq_ii, ne_ii, gN, gT_tup, gL_lst, gsC_cons, gsN_nil, List.map_cons, List.map_nil, List.length_cons, List.length_nil, List.cons_append, List.nil_append, List.append_nil, List.replicate_zero, List.replicate_succ, List.set_cons_zero, List.set_cons_succ, List.zip_cons_cons, List.zip_nil_right, List.foldl_cons, List.foldl_nil, Option.map_some, Option.map_none, Option.bind_some, Nat.reduceAdd, Nat.reduceSub, Nat.reduceEqDiff, Nat.reduceLT, Nat.reduceLeDiff, String.reduceEq, reduceCtorEq, Int.reduceLT, Int.reduceLE, Int.reduceEq, Int.reduceAdd, Int.reduceSub, Int.reduceNeg, Int.reduceMul, String.reduceBEq, decide_true, decide_false, if_true, if_false, ite_true, ite_false, Bool.false_eq_true, Bool.not_true, Bool.not_false, Bool.true_and, Bool.false_and, Bool.and_true, Bool.and_false, Bool.true_or, Bool.false_or, Bool.or_true, Bool.or_false, h1, tuple_lst]
    · rw [List.length_map, rangeV_len] at l1
      omega
  obtain ⟨es, rfl, q⟩ := unmap (g := wordD) r1
  rw [List.length_map, rangeV_len] at l1
  match es, l1 with
  | [w0, w1], _ => exact ⟨w0, w1, st1, h1, ⟨q w0 (by simp), q w1 (by simp)⟩, P1⟩
end
theorem lawRun_bd {Ms : List (List (List (Int × Nat)))} {n : Nat} (hn : n ≤ 4) (hM : ∀ M ∈ Ms, M.length = n ∧ ∀ r ∈ M, r.length = n ∧ ∀ e ∈ r, Ent e) : ∀ (w : List Nat) {x : Nat} {r : List Int}, (∀ i ∈ w, i < Ms.length) → r.length = n → (∀ i ∈ r, Bd x i) → (lawRun Ms w r).length = n ∧ ∀ i ∈ lawRun Ms w r, Bd (x + 12 * w.length) i
  | [], x, r, _, h, hb => ⟨h, hb⟩
  | k :: w, x, r, hw, h, hb => by
    have hk := hw k (List.mem_cons_self ..)
    have := lawRun_bd hn hM w (x := x + 12) (r := stepI r ((lawM Ms).getD k [])) (fun i hi => hw i (List.mem_cons_of_mem _ hi)) (by rw [stepI_len]; exact h) (fun i hi => by
      obtain ⟨c, hc, rfl⟩ := List.mem_map.mp hi
      have hc : c < r.length := List.mem_range.mp hc
      refine (dotI_bd (x := x) (y := 10) (by omega) hb fun i hi => ?_).mono (by omega)
      obtain ⟨line, hl, rfl⟩ := List.mem_map.mp hi
      have gk : (lawM Ms).getD k [] = Ms[k].map fun r => r.map (sc 1) := by
        rw [List.getD_eq_getElem?_getD, List.getElem?_map, List.getElem?_eq_getElem hk]
        rfl
      rw [gk] at hl
      obtain ⟨q, hq, rfl⟩ := List.mem_map.mp hl
      obtain ⟨a, b⟩ := (hM _ (List.getElem_mem hk)).2 q hq
      rw [List.getD_eq_getElem?_getD, List.getElem?_map, List.getElem?_eq_getElem (by rw [a]; omega)]
      exact (b _ (List.getElem_mem _)).2)
    rw [List.length_cons, show x + 12 * (w.length + 1) = x + 12 + 12 * w.length by omega]
    exact this
section
variable {a0 a1 a2 a3 a4 a5 a6 a7 a8 a9 a10 a11 a12 a13 a14 a15 a16 a17 : Option Va}
theorem law_loop {Ms : List (List (List (Int × Nat)))} {n s : Nat} {es : List (Int × Nat)} {w : List Nat} {mi : MI} {st : Sto} (hn : n ≤ 4) (hs : s + w.length ≤ 20) (hM : ∀ M ∈ Ms, M.length = n ∧ ∀ r ∈ M, r.length = n ∧ ∀ e ∈ r, Ent e) (hw : ∀ i ∈ w, i < Ms.length) (hl : es.length = n) (he : ∀ e ∈ es, Ok s e ∧ Bd 1000 (sc s e))
    (h : mi (V a0 a1 a2 a3 a4 a5 a6 a7 (some (.d (rowE es))) (some (.d (.lst (Ms.map matE)))) a10 a11 a12 a13 a14 a15 a16 a17) st = .ok ⟨w.map (fun (i : Nat) => Va.d (.int (i : Int))), none⟩ st) :
    ∃ (es' : List (Int × Nat)) (u : Option Va), mFor mi (gN 7) (mAsg (mCall (withD [] (pureF m_l_row)) (mCons (mVar 8) (mCons (mBin oIx (mVar 9) (mVar 7)) mNil))) (gN 8)) (V a0 a1 a2 a3 a4 a5 a6 a7 (some (.d (rowE es))) (some (.d (.lst (Ms.map matE)))) a10 a11 a12 a13 a14 a15 a16 a17) st = .nx (V a0 a1 a2 a3 a4 a5 a6 u (some (.d (rowE es'))) (some (.d (.lst (Ms.map matE)))) a10 a11 a12 a13 a14 a15 a16 a17) st ∧
      es'.length = n ∧ (∀ e ∈ es', Ok (s + w.length) e) ∧ es'.map (sc (s + w.length)) = lawRun Ms w (es.map (sc s)) := by
  have app : ∀ (l a : List Nat), l.foldl (fun a x => a ++ [x]) a = a ++ l := fun l => by
    induction l with
    | nil => intro a; simp
    | cons x l ih => intro a; rw [List.foldl_cons, ih, List.append_assoc]; rfl
  have o := mFor_fold (mi := mi) (tg := gN 7) (b := mAsg (mCall (withD [] (pureF m_l_row)) (mCons (mVar 8) (mCons (mBin oIx (mVar 9) (mVar 7)) mNil))) (gN 8)) (g := fun (i : Nat) => Va.d (.int (i : Int)))
    (S := fun (acc : List Nat) ρ st1 => st1 = st ∧ ∃ (es' : List (Int × Nat)) (u : Option Va), ρ = V a0 a1 a2 a3 a4 a5 a6 u (some (.d (rowE es'))) (some (.d (.lst (Ms.map matE)))) a10 a11 a12 a13 a14 a15 a16 a17 ∧ es'.length = n ∧ (∀ e ∈ es', Ok (s + acc.length) e) ∧ es'.map (sc (s + acc.length)) = lawRun Ms acc (es.map (sc s))) (step := fun a x => a ++ [x])
    w [] h ⟨rfl, es, a7, rfl, hl, fun e hm => (he e hm).1, rfl⟩ fun l1 k l2 e ρ st hst => by
      rw [app, List.nil_append] at hst ⊢
      obtain ⟨rfl, es', u, rfl, hl', ho, hr⟩ := hst
      have hk : k < Ms.length := hw k (by rw [e]; simp)
      have ls : s + l1.length ≤ 19 := by rw [e, List.length_append, List.length_cons] at hs; omega
      have bd := (lawRun_bd hn hM l1 (x := 1000) (r := es.map (sc s)) (fun i hi => hw i (by rw [e]; simp [hi])) (by rw [List.length_map]; exact hl) (fun i hi => by
        obtain ⟨x, hx, rfl⟩ := List.mem_map.mp hi
        exact (he x hx).2)).2
      rw [← hr] at bd
      obtain ⟨es2, h1, h2, h3, h4⟩ := e_row (s := s + l1.length) (n := n) (es := es') (M := Ms[k]) (by omega) hl' hn (fun x hx => ⟨ho x hx, (bd _ (List.mem_map_of_mem hx)).mono (by omega)⟩) (hM _ (List.getElem_mem hk)).1 (hM _ (List.getElem_mem hk)).2 st
      have ix := ix_lst (Ms.map matE) (k : Int) (matE Ms[k]) st (atI_nat (by rw [List.getElem?_map, List.getElem?_eq_getElem hk]; rfl))
      refine ⟨V a0 a1 a2 a3 a4 a5 a6 (some (.d (.int k))) (some (.d (rowE es'))) (some (.d (.lst (Ms.map matE)))) a10 a11 a12 a13 a14 a15 a16 a17, V a0 a1 a2 a3 a4 a5 a6 (some (.d (.int k))) (some (.d (rowE es2))) (some (.d (.lst (Ms.map matE)))) a10 a11 a12 a13 a14 a15 a16 a17, st, rfl, ?_, rfl, es2, some (.d (.int k)), rfl, h2, ?_, ?_⟩
      · simp only [V]
        simp only [mFun_eq', mSeq_eq, mIfS, mRet, mRetN, mAsg, mPar, mExpr, mSkip, mBrk, mCnt, mBad, mRaise, outE_ok, outT_ok, outE_er, seqO_nx, seqO_rt, seqO_er, retO_rt, retO_nx, retO_er, Res.bind_ok, Res.bind_er, Res.bind_bad, mVar_0, mVar_s, mVarI_0, mVarI_s, strip_ref, strip_non, strip_bl, strip_int, strip_str, strip_lst, strip_tup, strip_obj, strip_lck, strip_idn, mC, mBin, mUn, mTst, mCB, mCons, mNil, mStar, mAnd, mOr, mAndT, mOrT, mNotT, mIf, mTru, truV, mTup, mLst, ds?, ds?_map, mCall, withD, mFld, getF_o, getF_r, oNeg, oNot, oAbs, oMax, oMin, oI1, oI2, oInt, add_ii, sub_ii, lt_ii, le_ii, gt_ii, ge_ii, eq_ii, ne_ii, gN, gT_tup, gL_lst, gsC_cons, gsN_nil, List.map_cons, List.map_nil, List.length_cons, List.length_nil, List.cons_append, List.nil_append, List.append_nil, List.replicate_zero, List.replicate_succ, List.set_cons_zero, List.set_cons_succ, List.zip_cons_cons, List.zip_nil_right, List.foldl_cons, List.foldl_nil, Option.map_some, Option.map_none, Option.bind_some, Nat.reduceAdd, Nat.reduceSub, Nat.reduceEqDiff, Nat.reduceLT, Nat.reduceLeDiff, String.reduceEq, reduceCtorEq, Int.reduceLT, Int.reduceLE, Int.reduceEq, Int.reduceAdd, Int.reduceSub, Int.reduceNeg, Int.reduceMul, String.reduceBEq, decide_true, decide_false, if_true, if_false, ite_true, ite_false, Bool.false_eq_true, Bool.not_true, Bool.not_false, Bool.true_and, Bool.false_and, Bool.and_true, Bool.and_false, Bool.true_or, Bool.false_or, Bool.or_true, Bool.or_false, ix, h1]
      · rw [List.length_append, List.length_singleton]
        exact h3
      · rw [List.length_append, List.length_singleton]
        show es2.map (sc (s + l1.length + 1)) = _
        rw [h4]
        unfold lawRun
        rw [List.foldl_append, List.foldl_cons, List.foldl_nil]
        have e3 : es'.map (sc (s + l1.length)) = l1.foldl (fun r k => stepI r ((lawM Ms).getD k [])) (es.map (sc s)) := hr
        rw [← e3]
        congr 1
        rw [List.getD_eq_getElem?_getD, List.getElem?_map, List.getElem?_eq_getElem hk]
        rfl
  obtain ⟨ρ1, st1, h1, rfl, es', u, rfl, hl', ho, hr⟩ := o
  rw [app, List.nil_append] at ho hr
  exact ⟨es', u, h1, hl', ho, hr⟩
end

noncomputable def q1 : MS := (mAsg (mCall (withD [] m_l_pool) (mCons (mVar 0) (mCons (mVar 1) mNil))) (gN 2))
noncomputable def q2 : MS := (mAsg (mTup (mCons (mCall (withD [] m_l_draw) (mCons (mVar 2) (mCons (mC (.int 4)) mNil))) (mCons (mBin oAdd (mC (.int 2)) (mCall (withD [] m_l_draw) (mCons (mVar 2) (mCons (mC (.int 2)) mNil)))) mNil))) (gT 2 (gsC (gN 3) (gsC (gN 4) gsN))))
noncomputable def q3 : MS := (mPar [5, 6] (mCons (mLc [15] (mItR1 (mCons (mVar 3) mNil)) (gN 15) mYes (mCall (withD [] m_l_entry) (mCons (mVar 2) mNil))) (mCons (mLc [15] (mItR1 (mCons (mVar 3) mNil)) (gN 15) mYes (mCall (withD [] m_l_entry) (mCons (mVar 2) mNil))) mNil)))
noncomputable def q4 : MS := (mAsg (mLc [7] (mItR1 (mCons (mVar 4) mNil)) (gN 7) mYes (mLc [8] (mItR1 (mCons (mVar 3) mNil)) (gN 8) mYes (mLc [15] (mItR1 (mCons (mVar 3) mNil)) (gN 15) mYes (mCall (withD [] m_l_entry) (mCons (mVar 2) mNil))))) (gN 9))
noncomputable def q5 : MS := (mAsg (mLc [14] (mItR1 (mCons (mC (.int 2)) mNil)) (gN 14) mYes (mCB oTuple (mCons (mLc [16] (mItR1 (mCons (mCall (withD [] m_l_draw) (mCons (mVar 2) (mCons (mC (.int 6)) mNil))) mNil)) (gN 16) mYes (mCall (withD [] m_l_draw) (mCons (mVar 2) (mCons (mVar 4) mNil)))) mNil))) (gN 10))
noncomputable def q6 : MS := (mPar [11, 8] (mCons (mCall (withD [] (pureF m_l_told)) (mCons (mVar 5) (mCons (mVar 9) (mCons (mVar 6) mNil)))) (mCons (mVar 5) mNil)))
noncomputable def q7 : MS := (mFor (mItS (mBin oIx (mVar 10) (mC (.int 0)))) (gN 7) (mAsg (mCall (withD [] (pureF m_l_row)) (mCons (mVar 8) (mCons (mBin oIx (mVar 9) (mVar 7)) mNil))) (gN 8)))
noncomputable def q8 : MS := (mIfS (mNotT (mTru (mCall (withD [] (pureF m_l_same)) (mCons (mCall (withD [] (pureF m_machine_value)) (mCons (mVar 11) (mCons (mBin oIx (mVar 10) (mC (.int 0))) mNil))) (mCons (mCall (withD [] (pureF m_l_sum)) (mCons (mVar 8) (mCons (mVar 6) mNil))) mNil))))) (mRet (mC (.bl false))) mSkip)
noncomputable def q9 : MS := (mAsg (mTup (mCons (mCB oTuple (mCons (mLc [17] (mItS (mVar 8)) (gN 17) mYes (mCall (makeP "Ratio" (withD [] m_Ratio___init__)) (mCons (mBin oIx (mVar 17) (mC (.int 0))) (mCons (mBin oIx (mVar 17) (mC (.int 1))) mNil)))) mNil)) (mCons (mBin oIx (mVar 11) (mC (.int 1))) (mCons (mBin oIx (mVar 11) (mC (.int 2))) mNil)))) (gN 12))
noncomputable def q10 : MS := (mFor (mItS (mBin oIx (mVar 10) (mC (.int 1)))) (gN 7) (mAsg (mCall (withD [] (pureF m_l_row)) (mCons (mVar 8) (mCons (mBin oIx (mVar 9) (mVar 7)) mNil))) (gN 8)))
noncomputable def q11 : MS := (mFor (mItS (mLst (mCons (mCall (withD [] (pureF m_machine_value)) (mCons (mVar 11) (mCons (mBin oAdd (mBin oIx (mVar 10) (mC (.int 0))) (mBin oIx (mVar 10) (mC (.int 1)))) mNil))) (mCons (mCall (withD [] (pureF m_machine_value)) (mCons (mVar 12) (mCons (mBin oIx (mVar 10) (mC (.int 1))) mNil))) mNil)))) (gN 13) (mIfS (mNotT (mTru (mCall (withD [] (pureF m_l_same)) (mCons (mVar 13) (mCons (mCall (withD [] (pureF m_l_sum)) (mCons (mVar 8) (mCons (mVar 6) mNil))) mNil))))) (mRet (mC (.bl false))) mSkip))
noncomputable def q12 : MS := (mIfS (mNotT (mTru (mCall (withD [] (pureF m_l_refusals)) (mCons (mVar 11) (mCons (mVar 3) (mCons (mVar 4) mNil)))))) (mRet (mC (.bl false))) mSkip)
noncomputable abbrev lawB : MS := (mSeq q1 (mSeq q2 (mSeq q3 (mSeq q4 (mSeq q5 (mSeq q6 (mSeq q7 (mSeq q8 (mSeq q9 (mSeq q10 (mSeq q11 q12)))))))))))
theorem b_law_eq : b_law = mSeq (mFor (mItR1 (mCons (mCB oMax (mCons (mC (.int 1)) (mCons (mCB oMin (mCons (mCB oLen (mCons (mVar 0) mNil)) (mCons (mC (.int 8)) mNil))) mNil))) mNil)) (gN 1) lawB) (mRet (mC (.bl true))) := rfl
theorem same_eq {p q t S : Int} {b : Nat} {c : Int} (h1 : p * c = S * q) (h2 : t * c = S * b) (c0 : c ≠ 0) : p * b = t * q := by
  refine Int.eq_of_mul_eq_mul_right c0 ?_
  have : p * b * c = (p * c) * b := by grind
  rw [this, h1]
  have : t * q * c = (t * c) * q := by grind
  rw [this, h2]
  grind
/-- a value and the law's own sum -/
theorem agree {n s : Nat} {es ls : List (Int × Nat)} {R : List Int} (hs : s ≤ 19) (hn : n ≤ 4) (hl : es.length = n) (he : ∀ e ∈ es, Ok s e) (hR : es.map (sc s) = R) (hb : ∀ i ∈ R, Bd 2000 i) (hu : ∀ u ∈ ls, Ent u) :
    ∃ e', (∀ st, pureF m_l_sum [.d (rowE es), .d (rowE ls)] st = .ok (.d (eD e')) st) ∧ ∀ (p q : Int), 0 < q → Bd 200000 p → Bd 200000 q → p * 12 ^ (s + 1) = dotI R (ls.map (sc 1)) * q → ∀ st, pureF m_l_same [.d (ratD p q), .d (eD e')] st = .ok (.d (.bl true)) st := by
  have hes : ∀ e ∈ es, Ok s e ∧ Bd 2000 (sc s e) := fun e hm => ⟨he e hm, hb _ (by rw [← hR]; exact List.mem_map_of_mem hm)⟩
  obtain ⟨e', h1, h2, h3⟩ := e_sum (s := s) (es := es) (us := ls) (by omega) (by omega) hes hu []
  have h1' : ∀ st, pureF m_l_sum [.d (rowE es), .d (rowE ls)] st = .ok (.d (eD e')) st := fun st => by
    obtain ⟨e2, k1, k2, k3⟩ := e_sum (s := s) (es := es) (us := ls) (by omega) (by omega) hes hu st
    have : ∀ (f : MF) (a : List Va) (x : D) (st : Sto), pureF f a [] = .ok (.d x) [] → pureF f a st = .ok (.d x) st := fun f a x st h => by
      unfold pureF at h ⊢
      split at h
      · split at h
        · split at h
          · simp only [Res.ok.injEq, and_true] at h
            rw [h]
          · cases h
        · split at h <;> cases h
        · cases h
      · cases h
    exact this _ _ _ _ h1
  refine ⟨e', h1', fun p q q0 b1 b2 h st => ?_⟩
  rw [hR] at h3
  have b3 : Bd 200000 e'.1 := by
    refine h2.bd1 ?_
    rw [h3]
    refine (dotI_bd (x := 2000) (y := 10) (by rw [← hR, List.length_map]; omega) hb fun i hi => ?_).mono (by decide)
    obtain ⟨u, hm, rfl⟩ := List.mem_map.mp hi
    exact (hu u hm).2
  have b4 : Bd 200000 (e'.2 : Int) := (bd_dvd12 h2.2).mono (by omega)
  have eq := h2.eq
  rw [h3] at eq
  exact e_same (same_eq h eq (Int.pow_ne_zero (by decide))) q0 b1 b2 b3 b4 st
theorem turn {ns : List Int} {j : Nat} (hj : j < 1000) (x2 x3 x4 x5 x6 x7 x8 x9 x10 x11 x12 x13 x14 x15 x16 x17 : Option Va) (st : Sto) :
    ∃ y2 y3 y4 y5 y6 y7 y8 y9 y10 y11 y12 y13 st', lawB (V (some (.d (.lck ns))) (some (.d (.int j))) x2 x3 x4 x5 x6 x7 x8 x9 x10 x11 x12 x13 x14 x15 x16 x17) st = .nx (V (some (.d (.lck ns))) (some (.d (.int j))) y2 y3 y4 y5 y6 y7 y8 y9 y10 y11 y12 y13 x14 x15 x16 x17) st' := by
  obtain ⟨st1, p1, P1⟩ := pool_ok (ns := ns) (j := j) (st := st) hj
  generalize st.length = k at p1 P1
  have t1 : q1 (V (some (.d (.lck ns))) (some (.d (.int j))) x2 x3 x4 x5 x6 x7 x8 x9 x10 x11 x12 x13 x14 x15 x16 x17) st = .nx (V (some (.d (.lck ns))) (some (.d (.int j))) (some (.ref k)) x3 x4 x5 x6 x7 x8 x9 x10 x11 x12 x13 x14 x15 x16 x17) st1 := by
    unfold q1
    simp only [V]
    simp only [mFun_eq', mSeq_eq, mIfS, mRet, mRetN, mAsg, mPar, mExpr, mSkip, mBrk, mCnt, mBad, mRaise, outE_ok, outT_ok, outE_er, seqO_nx, seqO_rt, seqO_er, retO_rt, retO_nx, retO_er, Res.bind_ok, Res.bind_er, Res.bind_bad, mVar_0, mVar_s, mVarI_0, mVarI_s, strip_ref, strip_non, strip_bl, strip_int, strip_str, strip_lst, strip_tup, strip_obj, strip_lck, strip_idn, mC, mBin, mUn, mTst, mCB, mCons, mNil, mStar, mAnd, mOr, mAndT, mOrT, mNotT, mIf, mTru, truV, mTup, mLst, ds?, ds?_map, mCall, withD, mFld, getF_o, getF_r, oNeg, oNot, oAbs, oMax, oMin, oI1, oI2, oInt, add_ii, sub_ii, lt_ii, le_ii, gt_ii, ge_ii, eq_ii, ne_ii, gN, gT_tup, gL_lst, gsC_cons, gsN_nil, List.map_cons, List.map_nil, List.length_cons, List.length_nil, List.cons_append, List.nil_append, List.append_nil, List.replicate_zero, List.replicate_succ, List.set_cons_zero, List.set_cons_succ, List.zip_cons_cons, List.zip_nil_right, List.foldl_cons, List.foldl_nil, Option.map_some, Option.map_none, Option.bind_some, Nat.reduceAdd, Nat.reduceSub, Nat.reduceEqDiff, Nat.reduceLT, Nat.reduceLeDiff, String.reduceEq, reduceCtorEq, Int.reduceLT, Int.reduceLE, Int.reduceEq, Int.reduceAdd, Int.reduceSub, Int.reduceNeg, Int.reduceMul, String.reduceBEq, decide_true, decide_false, if_true, if_false, ite_true, ite_false, Bool.false_eq_true, Bool.not_true, Bool.not_false, Bool.true_and, Bool.false_and, Bool.and_true, Bool.and_false, Bool.true_or, Bool.false_or, Bool.or_true, Bool.or_false, g_pool, p1]
  obtain ⟨d1, st2, g1, g2, g3, P2, _⟩ := draw_ok P1 (n := 4) (by decide) (by decide)
  obtain ⟨d2, st3, k1, k2, k3, P3, _⟩ := draw_ok P2 (n := 2) (by decide) (by decide)
  obtain ⟨n, rfl⟩ : ∃ n : Nat, d1 = n := ⟨d1.toNat, (Int.toNat_of_nonneg g2).symm⟩
  obtain ⟨sz, hsz⟩ : ∃ n : Nat, 2 + d2 = n := ⟨(2 + d2).toNat, (Int.toNat_of_nonneg (by omega)).symm⟩
  have n3 : n ≤ 3 := by omega
  have sz3 : sz ≤ 3 := by omega
  have sz2 : 2 ≤ sz := by omega
  have t2 : q2 (V (some (.d (.lck ns))) (some (.d (.int j))) (some (.ref k)) x3 x4 x5 x6 x7 x8 x9 x10 x11 x12 x13 x14 x15 x16 x17) st1 = .nx (V (some (.d (.lck ns))) (some (.d (.int j))) (some (.ref k)) (some (.d (.int n))) (some (.d (.int sz))) x5 x6 x7 x8 x9 x10 x11 x12 x13 x14 x15 x16 x17) st3 := by
    unfold q2
    simp only [V]
    simp only [mFun_eq', mSeq_eq, mIfS, mRet, mRetN, mAsg, mPar, mExpr, mSkip, mBrk, mCnt, mBad, mRaise, outE_ok, outT_ok, outE_er, seqO_nx, seqO_rt, seqO_er, retO_rt, retO_nx, retO_er, Res.bind_ok, Res.bind_er, Res.bind_bad, mVar_0, mVar_s, mVarI_0, mVarI_s, strip_ref, strip_non, strip_bl, strip_int, strip_str, strip_lst, strip_tup, strip_obj, strip_lck, strip_idn, mC, mBin, mUn, mTst, mCB, mCons, mNil, mStar, mAnd, mOr, mAndT, mOrT, mNotT, mIf, mTru, truV, mTup, mLst, ds?, ds?_map, mCall, withD, mFld, getF_o, getF_r, oNeg, oNot, oAbs, oMax, oMin, oI1, oI2, oInt, add_ii, sub_ii, lt_ii, le_ii, gt_ii, ge_ii, eq_ii, ne_ii, gN, gT_tup, gL_lst, gsC_cons, gsN_nil, List.map_cons, List.map_nil, List.length_cons, List.length_nil, List.cons_append, List.nil_append, List.append_nil, List.replicate_zero, List.replicate_succ, List.set_cons_zero, List.set_cons_succ, List.zip_cons_cons, List.zip_nil_right, List.foldl_cons, List.foldl_nil, Option.map_some, Option.map_none, Option.bind_some, Nat.reduceAdd, Nat.reduceSub, Nat.reduceEqDiff, Nat.reduceLT, Nat.reduceLeDiff, String.reduceEq, reduceCtorEq, Int.reduceLT, Int.reduceLE, Int.reduceEq, Int.reduceAdd, Int.reduceSub, Int.reduceNeg, Int.reduceMul, String.reduceBEq, decide_true, decide_false, if_true, if_false, ite_true, ite_false, Bool.false_eq_true, Bool.not_true, Bool.not_false, Bool.true_and, Bool.false_and, Bool.and_true, Bool.and_false, Bool.true_or, Bool.false_or, Bool.or_true, Bool.or_false, g_draw, g1, k1, cap, hsz]
  obtain ⟨es, st4, e1, ⟨el, ee⟩, P4⟩ := row_draw (k := k) (n := n) (ρ := V (some (.d (.lck ns))) (some (.d (.int j))) (some (.ref k)) (some (.d (.int n))) (some (.d (.int sz))) x5 x6 x7 x8 x9 x10 x11 x12 x13 x14 x15 x16 x17) P3 (by omega) (fun _ _ => rfl) (fun _ => rfl)
  obtain ⟨ls, st5, f1, ⟨ll, le⟩, P5⟩ := row_draw (k := k) (n := n) (ρ := V (some (.d (.lck ns))) (some (.d (.int j))) (some (.ref k)) (some (.d (.int n))) (some (.d (.int sz))) x5 x6 x7 x8 x9 x10 x11 x12 x13 x14 x15 x16 x17) P4 (by omega) (fun _ _ => rfl) (fun _ => rfl)
  have t3 : q3 (V (some (.d (.lck ns))) (some (.d (.int j))) (some (.ref k)) (some (.d (.int n))) (some (.d (.int sz))) x5 x6 x7 x8 x9 x10 x11 x12 x13 x14 x15 x16 x17) st3 = .nx (V (some (.d (.lck ns))) (some (.d (.int j))) (some (.ref k)) (some (.d (.int n))) (some (.d (.int sz))) (some (.d (rowE es))) (some (.d (rowE ls))) x7 x8 x9 x10 x11 x12 x13 x14 x15 x16 x17) st5 := by
    unfold q3
    simp only [V, entC] at e1 f1 ⊢
    simp only [mFun_eq', mSeq_eq, mIfS, mRet, mRetN, mAsg, mPar, mExpr, mSkip, mBrk, mCnt, mBad, mRaise, outE_ok, outT_ok, outE_er, seqO_nx, seqO_rt, seqO_er, retO_rt, retO_nx, retO_er, Res.bind_ok, Res.bind_er, Res.bind_bad, mVar_0, mVar_s, mVarI_0, mVarI_s, strip_ref, strip_non, strip_bl, strip_int, strip_str, strip_lst, strip_tup, strip_obj, strip_lck, strip_idn, mC, mBin, mUn, mTst, mCB, mCons, mNil, mStar, mAnd, mOr, mAndT, mOrT, mNotT, mIf, mTru, truV, mTup, mLst, ds?, ds?_map, mCall, withD, mFld, getF_o, getF_r, oNeg, oNot, oAbs, oMax, oMin, oI1, oI2, oInt, add_ii, sub_ii, lt_ii, le_ii, gt_ii, ge_ii, eq_ii, ne_ii, gN, gT_tup, gL_lst, gsC_cons, gsN_nil, List.map_cons, List.map_nil, List.length_cons, List.length_nil, List.cons_append, List.nil_append, List.append_nil, List.replicate_zero, List.replicate_succ, List.set_cons_zero, List.set_cons_succ, List.zip_cons_cons, List.zip_nil_right, List.foldl_cons, List.foldl_nil, Option.map_some, Option.map_none, Option.bind_some, Nat.reduceAdd, Nat.reduceSub, Nat.reduceEqDiff, Nat.reduceLT, Nat.reduceLeDiff, String.reduceEq, reduceCtorEq, Int.reduceLT, Int.reduceLE, Int.reduceEq, Int.reduceAdd, Int.reduceSub, Int.reduceNeg, Int.reduceMul, String.reduceBEq, decide_true, decide_false, if_true, if_false, ite_true, ite_false, Bool.false_eq_true, Bool.not_true, Bool.not_false, Bool.true_and, Bool.false_and, Bool.and_true, Bool.and_false, Bool.true_or, Bool.false_or, Bool.or_true, Bool.or_false, e1, f1]
  obtain ⟨Ms, st6, m1, ⟨ml, me⟩, P6⟩ := mats_draw (a0 := some (.d (.lck ns))) (a1 := some (.d (.int j))) (a5 := some (.d (rowE es))) (a6 := some (.d (rowE ls))) (a7 := x7) (a8 := x8) (a9 := x9) (a10 := x10) (a11 := x11) (a12 := x12) (a13 := x13) (a14 := x14) (a15 := x15) (a16 := x16) (a17 := x17) (k := k) (n := n) (sz := sz) P5 (by omega) (by omega)
  have t4 : q4 (V (some (.d (.lck ns))) (some (.d (.int j))) (some (.ref k)) (some (.d (.int n))) (some (.d (.int sz))) (some (.d (rowE es))) (some (.d (rowE ls))) x7 x8 x9 x10 x11 x12 x13 x14 x15 x16 x17) st5 = .nx (V (some (.d (.lck ns))) (some (.d (.int j))) (some (.ref k)) (some (.d (.int n))) (some (.d (.int sz))) (some (.d (rowE es))) (some (.d (rowE ls))) x7 x8 (some (.d (.lst (Ms.map matE)))) x10 x11 x12 x13 x14 x15 x16 x17) st6 := by
    unfold q4
    simp only [V, entC] at m1 ⊢
    simp only [mFun_eq', mSeq_eq, mIfS, mRet, mRetN, mAsg, mPar, mExpr, mSkip, mBrk, mCnt, mBad, mRaise, outE_ok, outT_ok, outE_er, seqO_nx, seqO_rt, seqO_er, retO_rt, retO_nx, retO_er, Res.bind_ok, Res.bind_er, Res.bind_bad, mVar_0, mVar_s, mVarI_0, mVarI_s, strip_ref, strip_non, strip_bl, strip_int, strip_str, strip_lst, strip_tup, strip_obj, strip_lck, strip_idn, mC, mBin, mUn, mTst, mCB, mCons, mNil, mStar, mAnd, mOr, mAndT, mOrT, mNotT, mIf, mTru, truV, mTup, mLst, ds?, ds?_map, mCall, withD, mFld, getF_o, getF_r, oNeg, oNot, oAbs, oMax, oMin, oI1, oI2, oInt, add_ii, sub_ii, lt_ii, le_ii, gt_ii, ge_ii, eq_ii, ne_ii, gN, gT_tup, gL_lst, gsC_cons, gsN_nil, List.map_cons, List.map_nil, List.length_cons, List.length_nil, List.cons_append, List.nil_append, List.append_nil, List.replicate_zero, List.replicate_succ, List.set_cons_zero, List.set_cons_succ, List.zip_cons_cons, List.zip_nil_right, List.foldl_cons, List.foldl_nil, Option.map_some, Option.map_none, Option.bind_some, Nat.reduceAdd, Nat.reduceSub, Nat.reduceEqDiff, Nat.reduceLT, Nat.reduceLeDiff, String.reduceEq, reduceCtorEq, Int.reduceLT, Int.reduceLE, Int.reduceEq, Int.reduceAdd, Int.reduceSub, Int.reduceNeg, Int.reduceMul, String.reduceBEq, decide_true, decide_false, if_true, if_false, ite_true, ite_false, Bool.false_eq_true, Bool.not_true, Bool.not_false, Bool.true_and, Bool.false_and, Bool.and_true, Bool.and_false, Bool.true_or, Bool.false_or, Bool.or_true, Bool.or_false, m1]
  obtain ⟨w0, w1, st7, w2, ⟨⟨wl0, wi0⟩, ⟨wl1, wi1⟩⟩, P7⟩ := words_draw (a0 := some (.d (.lck ns))) (a1 := some (.d (.int j))) (a3 := some (.d (.int n))) (a5 := some (.d (rowE es))) (a6 := some (.d (rowE ls))) (a7 := x7) (a8 := x8) (a9 := some (.d (.lst (Ms.map matE)))) (a10 := x10) (a11 := x11) (a12 := x12) (a13 := x13) (a14 := x14) (a15 := x15) (a16 := x16) (a17 := x17) (k := k) (sz := sz) P6 (by omega) (by omega)
  have t5 : q5 (V (some (.d (.lck ns))) (some (.d (.int j))) (some (.ref k)) (some (.d (.int n))) (some (.d (.int sz))) (some (.d (rowE es))) (some (.d (rowE ls))) x7 x8 (some (.d (.lst (Ms.map matE)))) x10 x11 x12 x13 x14 x15 x16 x17) st6 = .nx (V (some (.d (.lck ns))) (some (.d (.int j))) (some (.ref k)) (some (.d (.int n))) (some (.d (.int sz))) (some (.d (rowE es))) (some (.d (rowE ls))) x7 x8 (some (.d (.lst (Ms.map matE)))) (some (.d (.lst [wordD w0, wordD w1]))) x11 x12 x13 x14 x15 x16 x17) st7 := by
    unfold q5
    simp only [V] at w2 ⊢
    simp only [mFun_eq', mSeq_eq, mIfS, mRet, mRetN, mAsg, mPar, mExpr, mSkip, mBrk, mCnt, mBad, mRaise, outE_ok, outT_ok, outE_er, seqO_nx, seqO_rt, seqO_er, retO_rt, retO_nx, retO_er, Res.bind_ok, Res.bind_er, Res.bind_bad, mVar_0, mVar_s, mVarI_0, mVarI_s, strip_ref, strip_non, strip_bl, strip_int, strip_str, strip_lst, strip_tup, strip_obj, strip_lck, strip_idn, mC, mBin, mUn, mTst, mCB, mCons, mNil, mStar, mAnd, mOr, mAndT, mOrT, mNotT, mIf, mTru, truV, mTup, mLst, ds?, ds?_map, mCall, withD, mFld, getF_o, getF_r, oNeg, oNot, oAbs, oMax, oMin, oI1, oI2, oInt, add_ii, sub_ii, lt_ii, le_ii, gt_ii, ge_ii, eq_ii, ne_ii, gN, gT_tup, gL_lst, gsC_cons, gsN_nil, List.map_cons, List.map_nil, List.length_cons, List.length_nil, List.cons_append, List.nil_append, List.append_nil, List.replicate_zero, List.replicate_succ, List.set_cons_zero, List.set_cons_succ, List.zip_cons_cons, List.zip_nil_right, List.foldl_cons, List.foldl_nil, Option.map_some, Option.map_none, Option.bind_some, Nat.reduceAdd, Nat.reduceSub, Nat.reduceEqDiff, Nat.reduceLT, Nat.reduceLeDiff, String.reduceEq, reduceCtorEq, Int.reduceLT, Int.reduceLE, Int.reduceEq, Int.reduceAdd, Int.reduceSub, Int.reduceNeg, Int.reduceMul, String.reduceBEq, decide_true, decide_false, if_true, if_false, ite_true, ite_false, Bool.false_eq_true, Bool.not_true, Bool.not_false, Bool.true_and, Bool.false_and, Bool.and_true, Bool.and_false, Bool.true_or, Bool.false_or, Bool.or_true, Bool.or_false, w2]
  rw [← ml] at wi0 wi1
  have T1 : Dat n 1 sh es Ms ls := ⟨n3, by decide, by decide, fun e he => sh_ok (ee e he).1.1, ⟨el, fun e he => ⟨(ee e he).1, (ee e he).2.mono (by decide)⟩⟩, ⟨ll, le⟩, by omega, me⟩
  have told := fun st => e_told (f := es) (l := ls) (Ms := Ms) (by omega) (by omega) (by omega) (fun e he => (ee e he).1) (fun e he => (le e he).1) (fun M hM => ⟨by have := (me M hM).1; omega, fun r hr => ⟨by have := ((me M hM).2 r hr).1; omega, fun e he => (((me M hM).2 r hr).2 e he).1⟩⟩) st
  generalize hMa : machD (es.map sh) (shM Ms) (ls.map sh) = Ma at told
  have sMa : strip (.d Ma) = .d Ma := by rw [← hMa]; rfl
  have t6 : q6 (V (some (.d (.lck ns))) (some (.d (.int j))) (some (.ref k)) (some (.d (.int n))) (some (.d (.int sz))) (some (.d (rowE es))) (some (.d (rowE ls))) x7 x8 (some (.d (.lst (Ms.map matE)))) (some (.d (.lst [wordD w0, wordD w1]))) x11 x12 x13 x14 x15 x16 x17) st7 = .nx (V (some (.d (.lck ns))) (some (.d (.int j))) (some (.ref k)) (some (.d (.int n))) (some (.d (.int sz))) (some (.d (rowE es))) (some (.d (rowE ls))) x7 (some (.d (rowE es))) (some (.d (.lst (Ms.map matE)))) (some (.d (.lst [wordD w0, wordD w1]))) (some (.d Ma)) x12 x13 x14 x15 x16 x17) st7 := by
    unfold q6
    simp only [V]
    simp only [mFun_eq', mSeq_eq, mIfS, mRet, mRetN, mAsg, mPar, mExpr, mSkip, mBrk, mCnt, mBad, mRaise, outE_ok, outT_ok, outE_er, seqO_nx, seqO_rt, seqO_er, retO_rt, retO_nx, retO_er, Res.bind_ok, Res.bind_er, Res.bind_bad, mVar_0, mVar_s, mVarI_0, mVarI_s, strip_ref, strip_non, strip_bl, strip_int, strip_str, strip_lst, strip_tup, strip_obj, strip_lck, strip_idn, mC, mBin, mUn, mTst, mCB, mCons, mNil, mStar, mAnd, mOr, mAndT, mOrT, mNotT, mIf, mTru, truV, mTup, mLst, ds?, ds?_map, mCall, withD, mFld, getF_o, getF_r, oNeg, oNot, oAbs, oMax, oMin, oI1, oI2, oInt, add_ii, sub_ii, lt_ii, le_ii, gt_ii, ge_ii, eq_ii, ne_ii, gN, gT_tup, gL_lst, gsC_cons, gsN_nil, List.map_cons, List.map_nil, List.length_cons, List.length_nil, List.cons_append, List.nil_append, List.append_nil, List.replicate_zero, List.replicate_succ, List.set_cons_zero, List.set_cons_succ, List.zip_cons_cons, List.zip_nil_right, List.foldl_cons, List.foldl_nil, Option.map_some, Option.map_none, Option.bind_some, Nat.reduceAdd, Nat.reduceSub, Nat.reduceEqDiff, Nat.reduceLT, Nat.reduceLeDiff, String.reduceEq, reduceCtorEq, Int.reduceLT, Int.reduceLE, Int.reduceEq, Int.reduceAdd, Int.reduceSub, Int.reduceNeg, Int.reduceMul, String.reduceBEq, decide_true, decide_false, if_true, if_false, ite_true, ite_false, Bool.false_eq_true, Bool.not_true, Bool.not_false, Bool.true_and, Bool.false_and, Bool.and_true, Bool.and_false, Bool.true_or, Bool.false_or, Bool.or_true, Bool.or_false, told]
  have i0 : ∀ st, oIx (.d (.lst [wordD w0, wordD w1])) (.d (.int 0)) st = .ok (.d (wordD w0)) st := fun st => ix_lst _ _ _ _ rfl
  have i1 : ∀ st, oIx (.d (.lst [wordD w0, wordD w1])) (.d (.int 1)) st = .ok (.d (wordD w1)) st := fun st => ix_lst _ _ _ _ rfl
  obtain ⟨es1, u1, t7, el1, eo1, er1⟩ := law_loop (a0 := some (.d (.lck ns))) (a1 := some (.d (.int j))) (a2 := some (.ref k)) (a3 := some (.d (.int n))) (a4 := some (.d (.int sz))) (a5 := some (.d (rowE es))) (a6 := some (.d (rowE ls))) (a7 := x7) (a10 := some (.d (.lst [wordD w0, wordD w1]))) (a11 := some (.d Ma)) (a12 := x12) (a13 := x13) (a14 := x14) (a15 := x15) (a16 := x16) (a17 := x17) (Ms := Ms) (n := n) (s := 1) (es := es) (w := w0) (mi := mItS (mBin oIx (mVar 10) (mC (.int 0)))) (st := st7) (by omega) (by omega) me wi0 el (fun e he => ⟨(ee e he).1, (ee e he).2.mono (by decide)⟩)
    (by rw [itS_tup (xs := w0.map fun (i : Nat) => .int (i : Int)) (st1 := st7) (by simp only [V]; simp only [mFun_eq', mSeq_eq, mIfS, mRet, mRetN, mAsg, mPar, mExpr, mSkip, mBrk, mCnt, mBad, mRaise, outE_ok, outT_ok, outE_er, seqO_nx, seqO_rt, seqO_er, retO_rt, retO_nx, retO_er, Res.bind_ok, Res.bind_er, Res.bind_bad, mVar_0, mVar_s, mVarI_0, mVarI_s, strip_ref, strip_non, strip_bl, strip_int, strip_str, strip_lst, strip_tup, strip_obj, strip_lck, strip_idn, mC, mBin, mUn, mTst, mCB, mCons, mNil, mStar, mAnd, mOr, mAndT, mOrT, mNotT, mIf, mTru, truV, mTup, mLst, ds?, ds?_map, mCall, withD, mFld, getF_o, getF_r, oNeg, oNot, oAbs, oMax, oMin, oI1, oI2, oInt, add_ii, sub_ii, lt_ii, le_ii, gt_ii, ge_ii, eq_ii, ne_ii, gN, gT_tup, gL_lst, gsC_cons, gsN_nil, List.map_cons, List.map_nil, List.length_cons, List.length_nil, List.cons_append, List.nil_append, List.append_nil, List.replicate_zero, List.replicate_succ, List.set_cons_zero, List.set_cons_succ, List.zip_cons_cons, List.zip_nil_right, List.foldl_cons, List.foldl_nil, Option.map_some, Option.map_none, Option.bind_some, Nat.reduceAdd, Nat.reduceSub, Nat.reduceEqDiff, Nat.reduceLT, Nat.reduceLeDiff, String.reduceEq, reduceCtorEq, Int.reduceLT, Int.reduceLE, Int.reduceEq, Int.reduceAdd, Int.reduceSub, Int.reduceNeg, Int.reduceMul, String.reduceBEq, decide_true, decide_false, if_true, if_false, ite_true, ite_false, Bool.false_eq_true, Bool.not_true, Bool.not_false, Bool.true_and, Bool.false_and, Bool.and_true, Bool.and_false, Bool.true_or, Bool.false_or, Bool.or_true, Bool.or_false, i0]), List.map_map]; rfl)
  have bd1 := (lawRun_bd (Ms := Ms) (n := n) (by omega) me w0 (x := 10) (r := es.map (sc 1)) wi0 (by rw [List.length_map]; exact el) (fun i hi => by
    obtain ⟨e, he, rfl⟩ := List.mem_map.mp hi
    exact (ee e he).2)).2
  have bd1' : ∀ i ∈ lawRun Ms w0 (es.map (sc 1)), Bd 1000 i := fun i hi => (bd1 i hi).mono (by omega)
  obtain ⟨s1, sm1, ag1⟩ := agree (s := 1 + w0.length) (n := n) (ls := ls) (by omega) (by omega) el1 eo1 er1 (fun i hi => (bd1' i hi).mono (by decide)) le
  obtain ⟨p, q, v1, v2, v3, v4, v5⟩ := value_eq T1 wi0 (by omega) st7
  rw [hMa] at v1
  have sa1 := ag1 p q v2 v3 v4 v5 st7
  have t8 : q8 (V (some (.d (.lck ns))) (some (.d (.int j))) (some (.ref k)) (some (.d (.int n))) (some (.d (.int sz))) (some (.d (rowE es))) (some (.d (rowE ls))) u1 (some (.d (rowE es1))) (some (.d (.lst (Ms.map matE)))) (some (.d (.lst [wordD w0, wordD w1]))) (some (.d Ma)) x12 x13 x14 x15 x16 x17) st7 = .nx (V (some (.d (.lck ns))) (some (.d (.int j))) (some (.ref k)) (some (.d (.int n))) (some (.d (.int sz))) (some (.d (rowE es))) (some (.d (rowE ls))) u1 (some (.d (rowE es1))) (some (.d (.lst (Ms.map matE)))) (some (.d (.lst [wordD w0, wordD w1]))) (some (.d Ma)) x12 x13 x14 x15 x16 x17) st7 := by
    unfold q8
    simp only [V]
    simp only [mFun_eq', mSeq_eq, mIfS, mRet, mRetN, mAsg, mPar, mExpr, mSkip, mBrk, mCnt, mBad, mRaise, outE_ok, outT_ok, outE_er, seqO_nx, seqO_rt, seqO_er, retO_rt, retO_nx, retO_er, Res.bind_ok, Res.bind_er, Res.bind_bad, mVar_0, mVar_s, mVarI_0, mVarI_s, strip_ref, strip_non, strip_bl, strip_int, strip_str, strip_lst, strip_tup, strip_obj, strip_lck, strip_idn, mC, mBin, mUn, mTst, mCB, mCons, mNil, mStar, mAnd, mOr, mAndT, mOrT, mNotT, mIf, mTru, truV, mTup, mLst, ds?, ds?_map, mCall, withD, mFld, getF_o, getF_r, oNeg, oNot, oAbs, oMax, oMin, oI1, oI2, oInt, add_ii, sub_ii, lt_ii, le_ii, gt_ii, ge_ii, eq_ii, ne_ii, gN, gT_tup, gL_lst, gsC_cons, gsN_nil, List.map_cons, List.map_nil, List.length_cons, List.length_nil, List.cons_append, List.nil_append, List.append_nil, List.replicate_zero, List.replicate_succ, List.set_cons_zero, List.set_cons_succ, List.zip_cons_cons, List.zip_nil_right, List.foldl_cons, List.foldl_nil, Option.map_some, Option.map_none, Option.bind_some, Nat.reduceAdd, Nat.reduceSub, Nat.reduceEqDiff, Nat.reduceLT, Nat.reduceLeDiff, String.reduceEq, reduceCtorEq, Int.reduceLT, Int.reduceLE, Int.reduceEq, Int.reduceAdd, Int.reduceSub, Int.reduceNeg, Int.reduceMul, String.reduceBEq, decide_true, decide_false, if_true, if_false, ite_true, ite_false, Bool.false_eq_true, Bool.not_true, Bool.not_false, Bool.true_and, Bool.false_and, Bool.and_true, Bool.and_false, Bool.true_or, Bool.false_or, Bool.or_true, Bool.or_false, sMa, i0, v1, sm1, sa1]
  -- the machine that begins later
  have T2 : Dat n (1 + w0.length) shR es1 Ms ls := ⟨n3, by omega, by omega, fun e he => shR_ok (eo1 e he).1, ⟨el1, fun e he => ⟨eo1 e he, (bd1' _ (by rw [← er1]; exact List.mem_map_of_mem he)).mono (by decide)⟩⟩, ⟨ll, le⟩, by omega, me⟩
  generalize hMb : machD (es1.map shR) (shM Ms) (ls.map sh) = Mb
  have sMb : strip (.d Mb) = .d Mb := by rw [← hMb]; rfl
  have j1 : oIx (.d Ma) (.d (.int 1)) st7 = .ok (.d (.tup ((shM Ms).map matD))) st7 := by
    rw [← hMa]
    exact ix_tup [.tup (es.map sh), .tup ((shM Ms).map matD), .tup (ls.map sh)] 1 _ _ rfl
  have j2 : oIx (.d Ma) (.d (.int 2)) st7 = .ok (.d (.tup (ls.map sh))) st7 := by
    rw [← hMa]
    exact ix_tup [.tup (es.map sh), .tup ((shM Ms).map matD), .tup (ls.map sh)] 2 _ _ rfl
  have lat : mLc [17] (mItS (mVar 8)) (gN 17) mYes (mCall (makeP "Ratio" (withD [] m_Ratio___init__)) (mCons (mBin oIx (mVar 17) (mC (.int 0))) (mCons (mBin oIx (mVar 17) (mC (.int 1))) mNil))) (V (some (.d (.lck ns))) (some (.d (.int j))) (some (.ref k)) (some (.d (.int n))) (some (.d (.int sz))) (some (.d (rowE es))) (some (.d (rowE ls))) u1 (some (.d (rowE es1))) (some (.d (.lst (Ms.map matE)))) (some (.d (.lst [wordD w0, wordD w1]))) (some (.d Ma)) x12 x13 x14 x15 x16 x17) st7 = .ok (.d (.lst (es1.map shR))) st7 := by
    refine mLc_map es1 (fun e => Va.d (eD e)) shR (by rw [itS_lst (xs := es1.map eD) (st1 := st7) (by simp only [V]; simp only [mFun_eq', mSeq_eq, mIfS, mRet, mRetN, mAsg, mPar, mExpr, mSkip, mBrk, mCnt, mBad, mRaise, outE_ok, outT_ok, outE_er, seqO_nx, seqO_rt, seqO_er, retO_rt, retO_nx, retO_er, Res.bind_ok, Res.bind_er, Res.bind_bad, mVar_0, mVar_s, mVarI_0, mVarI_s, strip_ref, strip_non, strip_bl, strip_int, strip_str, strip_lst, strip_tup, strip_obj, strip_lck, strip_idn, mC, mBin, mUn, mTst, mCB, mCons, mNil, mStar, mAnd, mOr, mAndT, mOrT, mNotT, mIf, mTru, truV, mTup, mLst, ds?, ds?_map, mCall, withD, mFld, getF_o, getF_r, oNeg, oNot, oAbs, oMax, oMin, oI1, oI2, oInt, add_ii, sub_ii, lt_ii, le_ii, gt_ii, ge_ii, eq_ii, ne_ii, gN, gT_tup, gL_lst, gsC_cons, gsN_nil, List.map_cons, List.map_nil, List.length_cons, List.length_nil, List.cons_append, List.nil_append, List.append_nil, List.replicate_zero, List.replicate_succ, List.set_cons_zero, List.set_cons_succ, List.zip_cons_cons, List.zip_nil_right, List.foldl_cons, List.foldl_nil, Option.map_some, Option.map_none, Option.bind_some, Nat.reduceAdd, Nat.reduceSub, Nat.reduceEqDiff, Nat.reduceLT, Nat.reduceLeDiff, String.reduceEq, reduceCtorEq, Int.reduceLT, Int.reduceLE, Int.reduceEq, Int.reduceAdd, Int.reduceSub, Int.reduceNeg, Int.reduceMul, String.reduceBEq, decide_true, decide_false, if_true, if_false, ite_true, ite_false, Bool.false_eq_true, Bool.not_true, Bool.not_false, Bool.true_and, Bool.false_and, Bool.and_true, Bool.and_false, Bool.true_or, Bool.false_or, Bool.or_true, Bool.or_false]), List.map_map]; rfl) (by show _ ≤ 1000000; omega) fun e he => ?_
    refine ⟨V (some (.d (.lck ns))) (some (.d (.int j))) (some (.ref k)) (some (.d (.int n))) (some (.d (.int sz))) (some (.d (rowE es))) (some (.d (rowE ls))) u1 (some (.d (rowE es1))) (some (.d (.lst (Ms.map matE)))) (some (.d (.lst [wordD w0, wordD w1]))) (some (.d Ma)) x12 x13 x14 x15 x16 (some (.d (eD e))), rfl, ?_⟩
    have z1 : oIx (.d (.lst [.int e.1, .int e.2])) (.d (.int 0)) st7 = .ok (.d (.int e.1)) st7 := ix_lst _ _ _ _ rfl
    have z2 : oIx (.d (.lst [.int e.1, .int e.2])) (.d (.int 1)) st7 = .ok (.d (.int e.2)) st7 := ix_lst _ _ _ _ rfl
    have z3 : strip (.d (eD e)) = .d (.lst [.int e.1, .int e.2]) := rfl
    simp only [V]
    simp only [mFun_eq', mSeq_eq, mIfS, mRet, mRetN, mAsg, mPar, mExpr, mSkip, mBrk, mCnt, mBad, mRaise, outE_ok, outT_ok, outE_er, seqO_nx, seqO_rt, seqO_er, retO_rt, retO_nx, retO_er, Res.bind_ok, Res.bind_er, Res.bind_bad, mVar_0, mVar_s, mVarI_0, mVarI_s, strip_ref, strip_non, strip_bl, strip_int, strip_str, strip_lst, strip_tup, strip_obj, strip_lck, strip_idn, mC, mBin, mUn, mTst, mCB, mCons, mNil, mStar, mAnd, mOr, mAndT, mOrT, mNotT, mIf, mTru, truV, mTup, mLst, ds?, ds?_map, mCall, withD, mFld, getF_o, getF_r, oNeg, oNot, oAbs, oMax, oMin, oI1, oI2, oInt, add_ii, sub_ii, lt_ii, le_ii, gt_ii, ge_ii, eq_ii, ne_ii, gN, gT_tup, gL_lst, gsC_cons, gsN_nil, List.map_cons, List.map_nil, List.length_cons, List.length_nil, List.cons_append, List.nil_append, List.append_nil, List.replicate_zero, List.replicate_succ, List.set_cons_zero, List.set_cons_succ, List.zip_cons_cons, List.zip_nil_right, List.foldl_cons, List.foldl_nil, Option.map_some, Option.map_none, Option.bind_some, Nat.reduceAdd, Nat.reduceSub, Nat.reduceEqDiff, Nat.reduceLT, Nat.reduceLeDiff, String.reduceEq, reduceCtorEq, Int.reduceLT, Int.reduceLE, Int.reduceEq, Int.reduceAdd, Int.reduceSub, Int.reduceNeg, Int.reduceMul, String.reduceBEq, decide_true, decide_false, if_true, if_false, ite_true, ite_false, Bool.false_eq_true, Bool.not_true, Bool.not_false, Bool.true_and, Bool.false_and, Bool.and_true, Bool.and_false, Bool.true_or, Bool.false_or, Bool.or_true, Bool.or_false, z3, z1, z2, mk_shR (eo1 e he) (by omega : 1 + w0.length ≤ 20) st7]
  have t9 : q9 (V (some (.d (.lck ns))) (some (.d (.int j))) (some (.ref k)) (some (.d (.int n))) (some (.d (.int sz))) (some (.d (rowE es))) (some (.d (rowE ls))) u1 (some (.d (rowE es1))) (some (.d (.lst (Ms.map matE)))) (some (.d (.lst [wordD w0, wordD w1]))) (some (.d Ma)) x12 x13 x14 x15 x16 x17) st7 = .nx (V (some (.d (.lck ns))) (some (.d (.int j))) (some (.ref k)) (some (.d (.int n))) (some (.d (.int sz))) (some (.d (rowE es))) (some (.d (rowE ls))) u1 (some (.d (rowE es1))) (some (.d (.lst (Ms.map matE)))) (some (.d (.lst [wordD w0, wordD w1]))) (some (.d Ma)) (some (.d Mb)) x13 x14 x15 x16 x17) st7 := by
    rw [← hMb]
    unfold q9
    simp only [V] at lat ⊢
    simp only [mFun_eq', mSeq_eq, mIfS, mRet, mRetN, mAsg, mPar, mExpr, mSkip, mBrk, mCnt, mBad, mRaise, outE_ok, outT_ok, outE_er, seqO_nx, seqO_rt, seqO_er, retO_rt, retO_nx, retO_er, Res.bind_ok, Res.bind_er, Res.bind_bad, mVar_0, mVar_s, mVarI_0, mVarI_s, strip_ref, strip_non, strip_bl, strip_int, strip_str, strip_lst, strip_tup, strip_obj, strip_lck, strip_idn, mC, mBin, mUn, mTst, mCB, mCons, mNil, mStar, mAnd, mOr, mAndT, mOrT, mNotT, mIf, mTru, truV, mTup, mLst, ds?, ds?_map, mCall, withD, mFld, getF_o, getF_r, oNeg, oNot, oAbs, oMax, oMin, oI1, oI2, oInt, add_ii, sub_ii, lt_ii, le_ii, gt_ii, ge_ii, eq_ii, ne_ii, gN, gT_tup, gL_lst, gsC_cons, gsN_nil, List.map_cons, List.map_nil, List.length_cons, List.length_nil, List.cons_append, List.nil_append, List.append_nil, List.replicate_zero, List.replicate_succ, List.set_cons_zero, List.set_cons_succ, List.zip_cons_cons, List.zip_nil_right, List.foldl_cons, List.foldl_nil, Option.map_some, Option.map_none, Option.bind_some, Nat.reduceAdd, Nat.reduceSub, Nat.reduceEqDiff, Nat.reduceLT, Nat.reduceLeDiff, String.reduceEq, reduceCtorEq, Int.reduceLT, Int.reduceLE, Int.reduceEq, Int.reduceAdd, Int.reduceSub, Int.reduceNeg, Int.reduceMul, String.reduceBEq, decide_true, decide_false, if_true, if_false, ite_true, ite_false, Bool.false_eq_true, Bool.not_true, Bool.not_false, Bool.true_and, Bool.false_and, Bool.and_true, Bool.and_false, Bool.true_or, Bool.false_or, Bool.or_true, Bool.or_false, lat, tuple_lst, sMa, j1, j2, cap]
    rfl
  obtain ⟨es2, u2, t10, el2, eo2, er2⟩ := law_loop (a0 := some (.d (.lck ns))) (a1 := some (.d (.int j))) (a2 := some (.ref k)) (a3 := some (.d (.int n))) (a4 := some (.d (.int sz))) (a5 := some (.d (rowE es))) (a6 := some (.d (rowE ls))) (a7 := u1) (a10 := some (.d (.lst [wordD w0, wordD w1]))) (a11 := some (.d Ma)) (a12 := some (.d Mb)) (a13 := x13) (a14 := x14) (a15 := x15) (a16 := x16) (a17 := x17) (Ms := Ms) (n := n) (s := 1 + w0.length) (es := es1) (w := w1) (mi := mItS (mBin oIx (mVar 10) (mC (.int 1)))) (st := st7) (by omega) (by omega) me wi1 el1 (fun e he => ⟨eo1 e he, bd1' _ (by rw [← er1]; exact List.mem_map_of_mem he)⟩)
    (by rw [itS_tup (xs := w1.map fun (i : Nat) => .int (i : Int)) (st1 := st7) (by simp only [V]; simp only [mFun_eq', mSeq_eq, mIfS, mRet, mRetN, mAsg, mPar, mExpr, mSkip, mBrk, mCnt, mBad, mRaise, outE_ok, outT_ok, outE_er, seqO_nx, seqO_rt, seqO_er, retO_rt, retO_nx, retO_er, Res.bind_ok, Res.bind_er, Res.bind_bad, mVar_0, mVar_s, mVarI_0, mVarI_s, strip_ref, strip_non, strip_bl, strip_int, strip_str, strip_lst, strip_tup, strip_obj, strip_lck, strip_idn, mC, mBin, mUn, mTst, mCB, mCons, mNil, mStar, mAnd, mOr, mAndT, mOrT, mNotT, mIf, mTru, truV, mTup, mLst, ds?, ds?_map, mCall, withD, mFld, getF_o, getF_r, oNeg, oNot, oAbs, oMax, oMin, oI1, oI2, oInt, add_ii, sub_ii, lt_ii, le_ii, gt_ii, ge_ii, eq_ii, ne_ii, gN, gT_tup, gL_lst, gsC_cons, gsN_nil, List.map_cons, List.map_nil, List.length_cons, List.length_nil, List.cons_append, List.nil_append, List.append_nil, List.replicate_zero, List.replicate_succ, List.set_cons_zero, List.set_cons_succ, List.zip_cons_cons, List.zip_nil_right, List.foldl_cons, List.foldl_nil, Option.map_some, Option.map_none, Option.bind_some, Nat.reduceAdd, Nat.reduceSub, Nat.reduceEqDiff, Nat.reduceLT, Nat.reduceLeDiff, String.reduceEq, reduceCtorEq, Int.reduceLT, Int.reduceLE, Int.reduceEq, Int.reduceAdd, Int.reduceSub, Int.reduceNeg, Int.reduceMul, String.reduceBEq, decide_true, decide_false, if_true, if_false, ite_true, ite_false, Bool.false_eq_true, Bool.not_true, Bool.not_false, Bool.true_and, Bool.false_and, Bool.and_true, Bool.and_false, Bool.true_or, Bool.false_or, Bool.or_true, Bool.or_false, i1]), List.map_map]; rfl)
  rw [er1] at er2
  have both : lawRun Ms (w0 ++ w1) (es.map (sc 1)) = lawRun Ms w1 (lawRun Ms w0 (es.map (sc 1))) := by unfold lawRun; rw [List.foldl_append]
  have bd2 := (lawRun_bd (Ms := Ms) (n := n) (by omega) me (w0 ++ w1) (x := 10) (r := es.map (sc 1)) (fun i hi => by rcases List.mem_append.mp hi with h | h; exact wi0 i h; exact wi1 i h) (by rw [List.length_map]; exact el) (fun i hi => by
    obtain ⟨e, he, rfl⟩ := List.mem_map.mp hi
    exact (ee e he).2)).2
  rw [both] at bd2
  obtain ⟨s2, sm2, ag2⟩ := agree (s := 1 + w0.length + w1.length) (n := n) (ls := ls) (by omega) (by omega) el2 eo2 er2 (fun i hi => (bd2 i hi).mono (by rw [List.length_append]; omega)) le
  obtain ⟨pa, qa, va1, va2, va3, va4, va5⟩ := value_eq T1 (w := w0 ++ w1) (fun i hi => by rcases List.mem_append.mp hi with h | h; exact wi0 i h; exact wi1 i h) (by rw [List.length_append]; omega) st7
  rw [hMa] at va1
  rw [both, List.length_append, show 1 + (w0.length + w1.length) + 1 = 1 + w0.length + w1.length + 1 by omega] at va5
  have sa := ag2 pa qa va2 va3 va4 va5
  obtain ⟨pb, qb, vb1, vb2, vb3, vb4, vb5⟩ := value_eq T2 (w := w1) wi1 (by omega) st7
  rw [hMb] at vb1
  rw [er1] at vb5
  have sb := ag2 pb qb vb2 vb3 vb4 vb5
  have ad : oAdd (.d (wordD w0)) (.d (wordD w1)) st7 = .ok (.d (wordD (w0 ++ w1))) st7 := by
    show (if (w0.map fun (i : Nat) => D.int (i : Int)).length + (w1.map fun (i : Nat) => D.int (i : Int)).length ≤ cap then Res.ok (Va.d (.tup ((w0.map fun (i : Nat) => D.int (i : Int)) ++ w1.map fun (i : Nat) => D.int (i : Int)))) st7 else .bad) = _
    rw [if_pos (by rw [List.length_map, List.length_map]; show _ ≤ 1000000; omega), ← List.map_append]
  have t11 : q11 (V (some (.d (.lck ns))) (some (.d (.int j))) (some (.ref k)) (some (.d (.int n))) (some (.d (.int sz))) (some (.d (rowE es))) (some (.d (rowE ls))) u2 (some (.d (rowE es2))) (some (.d (.lst (Ms.map matE)))) (some (.d (.lst [wordD w0, wordD w1]))) (some (.d Ma)) (some (.d Mb)) x13 x14 x15 x16 x17) st7 = .nx (V (some (.d (.lck ns))) (some (.d (.int j))) (some (.ref k)) (some (.d (.int n))) (some (.d (.int sz))) (some (.d (rowE es))) (some (.d (rowE ls))) u2 (some (.d (rowE es2))) (some (.d (.lst (Ms.map matE)))) (some (.d (.lst [wordD w0, wordD w1]))) (some (.d Ma)) (some (.d Mb)) (some (.d (ratD pb qb))) x14 x15 x16 x17) st7 := by
    unfold q11
    rw [mFor_eq (l := [.d (ratD pa qa), .d (ratD pb qb)]) (st0 := st7) (itS_lst (xs := [ratD pa qa, ratD pb qb]) (by simp only [V]; simp only [mFun_eq', mSeq_eq, mIfS, mRet, mRetN, mAsg, mPar, mExpr, mSkip, mBrk, mCnt, mBad, mRaise, outE_ok, outT_ok, outE_er, seqO_nx, seqO_rt, seqO_er, retO_rt, retO_nx, retO_er, Res.bind_ok, Res.bind_er, Res.bind_bad, mVar_0, mVar_s, mVarI_0, mVarI_s, strip_ref, strip_non, strip_bl, strip_int, strip_str, strip_lst, strip_tup, strip_obj, strip_lck, strip_idn, mC, mBin, mUn, mTst, mCB, mCons, mNil, mStar, mAnd, mOr, mAndT, mOrT, mNotT, mIf, mTru, truV, mTup, mLst, ds?, ds?_map, mCall, withD, mFld, getF_o, getF_r, oNeg, oNot, oAbs, oMax, oMin, oI1, oI2, oInt, add_ii, sub_ii, lt_ii, le_ii, gt_ii, ge_ii, eq_ii, ne_ii, gN, gT_tup, gL_lst, gsC_cons, gsN_nil, List.map_cons, List.map_nil, List.length_cons, List.length_nil, List.cons_append, List.nil_append, List.append_nil, List.replicate_zero, List.replicate_succ, List.set_cons_zero, List.set_cons_succ, List.zip_cons_cons, List.zip_nil_right, List.foldl_cons, List.foldl_nil, Option.map_some, Option.map_none, Option.bind_some, Nat.reduceAdd, Nat.reduceSub, Nat.reduceEqDiff, Nat.reduceLT, Nat.reduceLeDiff, String.reduceEq, reduceCtorEq, Int.reduceLT, Int.reduceLE, Int.reduceEq, Int.reduceAdd, Int.reduceSub, Int.reduceNeg, Int.reduceMul, String.reduceBEq, decide_true, decide_false, if_true, if_false, ite_true, ite_false, Bool.false_eq_true, Bool.not_true, Bool.not_false, Bool.true_and, Bool.false_and, Bool.and_true, Bool.and_false, Bool.true_or, Bool.false_or, Bool.or_true, Bool.or_false, sMa, sMb, i0, i1, ad, va1, vb1, cap]))]
    have r : ∀ p q, strip (.d (ratD p q)) = .d (ratD p q) := fun _ _ => rfl
    simp only [V]
    simp only [mFun_eq', mSeq_eq, mIfS, mRet, mRetN, mAsg, mPar, mExpr, mSkip, mBrk, mCnt, mBad, mRaise, outE_ok, outT_ok, outE_er, seqO_nx, seqO_rt, seqO_er, retO_rt, retO_nx, retO_er, Res.bind_ok, Res.bind_er, Res.bind_bad, mVar_0, mVar_s, mVarI_0, mVarI_s, strip_ref, strip_non, strip_bl, strip_int, strip_str, strip_lst, strip_tup, strip_obj, strip_lck, strip_idn, mC, mBin, mUn, mTst, mCB, mCons, mNil, mStar, mAnd, mOr, mAndT, mOrT, mNotT, mIf, mTru, truV, mTup, mLst, ds?, ds?_map, mCall, withD, mFld, getF_o, getF_r, oNeg, oNot, oAbs, oMax, oMin, oI1, oI2, oInt, add_ii, sub_ii, lt_ii, le_ii, gt_ii, ge_ii, eq_ii, ne_ii, gN, gT_tup, gL_lst, gsC_cons, gsN_nil, List.map_cons, List.map_nil, List.length_cons, List.length_nil, List.cons_append, List.nil_append, List.append_nil, List.replicate_zero, List.replicate_succ, List.set_cons_zero, List.set_cons_succ, List.zip_cons_cons, List.zip_nil_right, List.foldl_cons, List.foldl_nil, Option.map_some, Option.map_none, Option.bind_some, Nat.reduceAdd, Nat.reduceSub, Nat.reduceEqDiff, Nat.reduceLT, Nat.reduceLeDiff, String.reduceEq, reduceCtorEq, Int.reduceLT, Int.reduceLE, Int.reduceEq, Int.reduceAdd, Int.reduceSub, Int.reduceNeg, Int.reduceMul, String.reduceBEq, decide_true, decide_false, if_true, if_false, ite_true, ite_false, Bool.false_eq_true, Bool.not_true, Bool.not_false, Bool.true_and, Bool.false_and, Bool.and_true, Bool.and_false, Bool.true_or, Bool.false_or, Bool.or_true, Bool.or_false, forM_cons', forM_nil', loopO_nx, r, sm2, sa, sb]
  have rf := e_refusals T1 (by omega) st7
  rw [hMa, ml] at rf
  have t12 : q12 (V (some (.d (.lck ns))) (some (.d (.int j))) (some (.ref k)) (some (.d (.int n))) (some (.d (.int sz))) (some (.d (rowE es))) (some (.d (rowE ls))) u2 (some (.d (rowE es2))) (some (.d (.lst (Ms.map matE)))) (some (.d (.lst [wordD w0, wordD w1]))) (some (.d Ma)) (some (.d Mb)) (some (.d (ratD pb qb))) x14 x15 x16 x17) st7 = .nx (V (some (.d (.lck ns))) (some (.d (.int j))) (some (.ref k)) (some (.d (.int n))) (some (.d (.int sz))) (some (.d (rowE es))) (some (.d (rowE ls))) u2 (some (.d (rowE es2))) (some (.d (.lst (Ms.map matE)))) (some (.d (.lst [wordD w0, wordD w1]))) (some (.d Ma)) (some (.d Mb)) (some (.d (ratD pb qb))) x14 x15 x16 x17) st7 := by
    unfold q12
    simp only [V]
    simp only [mFun_eq', mSeq_eq, mIfS, mRet, mRetN, mAsg, mPar, mExpr, mSkip, mBrk, mCnt, mBad, mRaise, outE_ok, outT_ok, outE_er, seqO_nx, seqO_rt, seqO_er, retO_rt, retO_nx, retO_er, Res.bind_ok, Res.bind_er, Res.bind_bad, mVar_0, mVar_s, mVarI_0, mVarI_s, strip_ref, strip_non, strip_bl, strip_int, strip_str, strip_lst, strip_tup, strip_obj, strip_lck, strip_idn, mC, mBin, mUn, mTst, mCB, mCons, mNil, mStar, mAnd, mOr, mAndT, mOrT, mNotT, mIf, mTru, truV, mTup, mLst, ds?, ds?_map, mCall, withD, mFld, getF_o, getF_r, oNeg, oNot, oAbs, oMax, oMin, oI1, oI2, oInt, add_ii, sub_ii, lt_ii, le_ii, gt_ii, ge_ii, eq_ii, ne_ii, gN, gT_tup, gL_lst, gsC_cons, gsN_nil, List.map_cons, List.map_nil, List.length_cons, List.length_nil, List.cons_append, List.nil_append, List.append_nil, List.replicate_zero, List.replicate_succ, List.set_cons_zero, List.set_cons_succ, List.zip_cons_cons, List.zip_nil_right, List.foldl_cons, List.foldl_nil, Option.map_some, Option.map_none, Option.bind_some, Nat.reduceAdd, Nat.reduceSub, Nat.reduceEqDiff, Nat.reduceLT, Nat.reduceLeDiff, String.reduceEq, reduceCtorEq, Int.reduceLT, Int.reduceLE, Int.reduceEq, Int.reduceAdd, Int.reduceSub, Int.reduceNeg, Int.reduceMul, String.reduceBEq, decide_true, decide_false, if_true, if_false, ite_true, ite_false, Bool.false_eq_true, Bool.not_true, Bool.not_false, Bool.true_and, Bool.false_and, Bool.and_true, Bool.and_false, Bool.true_or, Bool.false_or, Bool.or_true, Bool.or_false, sMa, rf]
  have t7' : q7 _ _ = _ := t7
  have t10' : q10 _ _ = _ := t10
  exact ⟨_, _, _, _, _, _, _, _, _, _, _, _, _, by
    unfold lawB
    rw [mSeq_eq, t1, seqO_nx, mSeq_eq, t2, seqO_nx, mSeq_eq, t3, seqO_nx, mSeq_eq, t4, seqO_nx, mSeq_eq, t5, seqO_nx, mSeq_eq, t6, seqO_nx, mSeq_eq, t7', seqO_nx, mSeq_eq, t8, seqO_nx, mSeq_eq, t9, seqO_nx, mSeq_eq, t10', seqO_nx, mSeq_eq, t11, seqO_nx, t12]⟩
theorem law_true (ns : List Int) (h : ns.length ≤ 63) : ∃ st, m_law [.d (.lck ns)] [] = .ok (.d (.bl true)) st := by
  obtain ⟨N, hN, eN⟩ : ∃ N : Nat, N ≤ 8 ∧ (if (if (8 : Int) < ns.length then 8 else (ns.length : Int)) > 1 then (if (8 : Int) < ns.length then 8 else (ns.length : Int)) else 1) = N := by
    by_cases a : (8 : Int) < ns.length
    · exact ⟨8, Nat.le_refl _, by rw [if_pos a]; rfl⟩
    · rw [if_neg a]
      by_cases b : (ns.length : Int) > 1
      · exact ⟨ns.length, by omega, by rw [if_pos b]⟩
      · exact ⟨1, by decide, by rw [if_neg b]; rfl⟩
  have ln : oLen [.d (.lck ns)] [] = .ok (.d (.int ns.length)) [] := rfl
  have o := mFor_inv (mi := mItR1 (mCons (mCB oMax (mCons (mC (.int 1)) (mCons (mCB oMin (mCons (mCB oLen (mCons (mVar 0) mNil)) (mCons (mC (.int 8)) mNil))) mNil))) mNil)) (tg := gN 1) (b := lawB) (I := fun _ ρ _ => ∃ x1 x2 x3 x4 x5 x6 x7 x8 x9 x10 x11 x12 x13 x14 x15 x16 x17, ρ = V (some (.d (.lck ns))) x1 x2 x3 x4 x5 x6 x7 x8 x9 x10 x11 x12 x13 x14 x15 x16 x17) (l := rangeV 0 N) (ρ := V (some (.d (.lck ns))) none none none none none none none none none none none none none none none none none) (st := []) (st0 := [])
    (itR1 (n := N) (by simp only [V]; simp only [mFun_eq', mSeq_eq, mIfS, mRet, mRetN, mAsg, mPar, mExpr, mSkip, mBrk, mCnt, mBad, mRaise, outE_ok, outT_ok, outE_er, seqO_nx, seqO_rt, seqO_er, retO_rt, retO_nx, retO_er, Res.bind_ok, Res.bind_er, Res.bind_bad, mVar_0, mVar_s, mVarI_0, mVarI_s, strip_ref, strip_non, strip_bl, strip_int, strip_str, strip_lst, strip_tup, strip_obj, strip_lck, strip_idn, mC, mBin, mUn, mTst, mCB, mCons, mNil, mStar, mAnd, mOr, mAndT, mOrT, mNotT, mIf, mTru, truV, mTup, mLst, ds?, ds?_map, mCall, withD, mFld, getF_o, getF_r, oNeg, oNot, oAbs, oMax, oMin, oI1, oI2, oInt, add_ii, sub_ii, lt_ii, le_ii, gt_ii, ge_ii, eq_ii, ne_ii, gN, gT_tup, gL_lst, gsC_cons, gsN_nil, List.map_cons, List.map_nil, List.length_cons, List.length_nil, List.cons_append, List.nil_append, List.append_nil, List.replicate_zero, List.replicate_succ, List.set_cons_zero, List.set_cons_succ, List.zip_cons_cons, List.zip_nil_right, List.foldl_cons, List.foldl_nil, Option.map_some, Option.map_none, Option.bind_some, Nat.reduceAdd, Nat.reduceSub, Nat.reduceEqDiff, Nat.reduceLT, Nat.reduceLeDiff, String.reduceEq, reduceCtorEq, Int.reduceLT, Int.reduceLE, Int.reduceEq, Int.reduceAdd, Int.reduceSub, Int.reduceNeg, Int.reduceMul, String.reduceBEq, decide_true, decide_false, if_true, if_false, ite_true, ite_false, Bool.false_eq_true, Bool.not_true, Bool.not_false, Bool.true_and, Bool.false_and, Bool.and_true, Bool.and_false, Bool.true_or, Bool.false_or, Bool.or_true, Bool.or_false, ln, eN]) (by omega)) ⟨none, none, none, none, none, none, none, none, none, none, none, none, none, none, none, none, none, rfl⟩ fun j x hx ρ st hI => by
      obtain ⟨x1, x2, x3, x4, x5, x6, x7, x8, x9, x10, x11, x12, x13, x14, x15, x16, x17, rfl⟩ := hI
      obtain ⟨rfl, hj⟩ := rangeV_get hx
      rw [Int.zero_add]
      obtain ⟨y2, y3, y4, y5, y6, y7, y8, y9, y10, y11, y12, y13, st', t⟩ := turn (ns := ns) (j := j) (by omega) x2 x3 x4 x5 x6 x7 x8 x9 x10 x11 x12 x13 x14 x15 x16 x17 st
      exact ⟨_, _, st', rfl, t, _, _, _, _, _, _, _, _, _, _, _, _, _, _, _, _, _, rfl⟩
  obtain ⟨ρ1, st1, h1, _⟩ := o
  refine ⟨st1, ?_⟩
  unfold m_law
  rw [b_law_eq, mFun_eq' 1 18 _ _ _ rfl, mSeq_eq]
  show retO (seqO (mFor _ _ lawB (V (some (.d (.lck ns))) none none none none none none none none none none none none none none none none none) []) _) = _
  rw [h1]
  rfl

def loose0 : List Str := ["_wall", "__name__", "InvalidFigures", "InvalidRatio", "InvalidMachine", "DivisionByZero", "__name__", "is_integer", "is_between", "greatest_divisor", "__name__", "dotted", "__name__", "ratio_of", "Ratio", "__name__", "is_entry_row", "is_matrix", "is_machine", "bottom_of", "times_of", "entries_in", "WholeMachine", "is_word", "machine_value", "__name__", "_law_pool", "_law_draw", "_law_choose", "_law_entry"]
def loose1 : List Str := ["_law_sum", "_law_row", "_law_shown", "_law_told", "_law_same", "_law_no_machine", "_law_no_word", "_law_refusals"]
def looseA : List Str := loose0 ++ loose1
abbrev RR : PySem.W.OpenRow := PySem.W.OpenLaw.row PySem.Challenge.rw_twodivisions_k51_values_of_linear_machin
abbrev hk : PySem.W.Hook := hookM 5 tab exK fns
def ob (s : PySem.W.SharedT) : He.AlD := obsMG 5 tab exK fns (HandSHeadRun.getT s)
theorem ob_eq (s : PySem.W.SharedT) : ob s = hk.obs s.abs := obsMG_eq (HandSHeadRun.getT_eq s)
theorem headRun (w : World) : HandSHeadRun.RunEq RR (PySem.W.view RR.prog [38]) hk ob 3000 looseA w := by
  intro os
  kernel_rfl
theorem facts {P : Program} {w : World} {K : PySem.W.Frag} {h : Heap} {mg : Str → Option Value} {f : Addr} (X : K.In h) (G : h.Ns mainGlobals mg) (hfa : mg ("law" : Str) = some (.ref f)) (c : SaysM tab exK fns K) :
    ∃ (fd : FuncData) (sp : Sp), (∀ (s : Shared) (v : Value), BindsTo s fd ⟨[v], []⟩ [("_law_script", v)]) ∧ (∀ (H : Hp) (a : Addr) (ns : List Int), ns.length ≤ 63 → SqL K H a (ns.map V.int) → sp [.ref a] H (fun v _ => v = .bl true) fun _ _ _ => False) ∧ ∀ base : Heap, K.In base → base.Ns mainGlobals mg → FnOk P w K mg base (L2.CX P w) 10 f fd ["_law_script"] sp := by
  have T : Tx tab exK fns K mg := ⟨c, fun x o e => by
    cases o with
    | none => exact PySem.W.mg_none_of X G e
    | some v => exact PySem.W.mg_of X G e⟩
  have e := hfa.symm.trans (T.gl 28)
  cases e
  obtain ⟨fd, F⟩ := c.def_ 30
  have b := FunD.bindsA (ps := ["_law_script"]) F fun _ _ _ _ _ _ us hl => match us, hl with | [_], _ => rfl
  exact ⟨fd, spM T.G m_law, fun s v => b s [v] rfl, fun H a ns hl hS => sp_law (G := T.G) hS (law_true ns hl), fun base _ _ => fn_law T fd F⟩
end My
open PySem PySem.W PySem.Calls PyProof.Rows
set_option maxRecDepth 100000 in
set_option maxHeartbeats 0 in
theorem PySem.Challenge.cw_twodivisions_k51_values_of_linear_machin_holds : PySem.Challenge.rw_twodivisions_k51_values_of_linear_machin.Holds := by
  w_on; o_law
  refine HandSHeadRun.head_any (r := OpenLaw.row PySem.Challenge.rw_twodivisions_k51_values_of_linear_machin) (q := view (OpenLaw.row PySem.Challenge.rw_twodivisions_k51_values_of_linear_machin).prog [38]) (H := My.hk) (ob := My.ob) (M := 3000) (loose := My.looseA) (d := HandSHeadRun.topDef (OpenLaw.row PySem.Challenge.rw_twodivisions_k51_values_of_linear_machin).prog 38) (kwd := []) My.ob_eq
    (by kernel_rfl) (fun s => by kernel_rfl) My.headRun (by kernel_rfl) (by kernel_rfl) (by kernel_rfl) (by rfl) (by first | assumption | decide +kernel) (by decide +kernel) ⟨rfl, rfl, rfl, rfl, rfl, by decide +kernel⟩ ?hw ?hc
  case hw => w_witness2
  case hc =>
    refine My.walk_ofM (l := PySem.Challenge.rw_twodivisions_k51_values_of_linear_machin) (n := 63) (k := 10) (x := "_law_script") rfl (by decide) (by kernel_rfl) ⟨rfl, by decide, by decide⟩ ?F
    intro w mg fa h Y G hmg0
    obtain ⟨K, KX, c⟩ := Y
    have hmg : mg ("law" : PySem.Str) = some (.ref fa) := by
      have e : (HandSHeadRun.topDef (OpenLaw.row PySem.Challenge.rw_twodivisions_k51_values_of_linear_machin).prog 38).name = ("law" : PySem.Str) := by kernel_rfl
      rw [← e]
      exact hmg0
    obtain ⟨fd, sp, hb, hsp, hF⟩ := My.facts (P := (PySem.Challenge.rw_twodivisions_k51_values_of_linear_machin).prog) (w := w) KX G hmg c
    exact ⟨K, fd, sp, KX, hb, fun H a ns hl _ hS => hsp H a ns hl hS, hF⟩
