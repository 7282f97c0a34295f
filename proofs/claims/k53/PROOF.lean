import PyProof.Rows.All
import Wide.All
import OpenK.AllK
import Wide.FinOn
import HandS.ForMost
import HandS.ForExc
import HandS.Wide
import HandS.WideBits
import HandS.EndBits
import HandS.IsInst
import HandS.Walk
import HandS.ExcInit
import HandS.ExcField
import HandS.ExcIs
import HandS.Style
import HandS.Property
import HandS.Defaults
import HandS.Star
import HandS.TupAny
import HandS.CallSlots
import HandS.NoneIn
import KE.KStateDown
import HandS.Head0
import HandS.Head1
import HandS.Head2
import HandS.HeadEnd
import HandS.HeadHook1
import HandS.HeadHook2
import KE.KExcInit
import KE.KOpsOwn
import HandS.ClsMeth
import HandS.TupMul
import HandS.Zip
import HandS.WideMore
import HandS.Flow
import KE.GoesMore
import KE.GoesEnum
import HandS.HotCalls

import PySem.Challenge.RW_twodivisions_k53_great_numbers_written_o
set_option Elab.async false
set_option maxRecDepth 100000
set_option maxHeartbeats 4000000
set_option linter.all false
namespace My
open PySem L2
/-! the mirror layer: what a def does, as a plain function over frozen data and a small store of things that change -/
inductive D where
  | non | bl (b : Bool) | int (i : Int) | str (x : Str)
  | lst (xs : List D) | tup (xs : List D) | obj (c : String) (fs : List (String × D))
  | dct (kvs : List (D × D)) | cls (c : String) | ty (n : String) | lck (ns : List Int)
  /-- x, the very object at a -/
  | idn (x : D) (a : Addr)
inductive Va where
  | d (x : D) | ref (n : Nat)
inductive MO where
  | lst (xs : List Va) | obj (c : String) (fs : List (String × Va)) | dct (kvs : List (D × Va))
abbrev Sto := List MO
abbrev Ev := List (Option Va)
inductive Res (α : Type) where
  | ok (a : α) (st : Sto) | er (c : String) (fs : List (String × Va)) (st : Sto) | bad
inductive Out where
  | nx (ρ : Ev) (st : Sto) | rt (v : Va) (st : Sto) | bk (ρ : Ev) (st : Sto) | ct (ρ : Ev) (st : Sto) | er (c : String) (fs : List (String × Va)) (ρ : Ev) (st : Sto) | bad
abbrev ME := Ev → Sto → Res Va
abbrev MT := Ev → Sto → Res Bool
abbrev MA := Ev → Sto → Res (List Va)
abbrev MS := Ev → Sto → Out
abbrev MF := List Va → Sto → Res Va
abbrev I' (i : Int) : Va := .d (.int i)
abbrev B' (b : Bool) : Va := .d (.bl b)
def Res.bind {α β : Type} : Res α → (α → Sto → Res β) → Res β
  | .ok a st, k => k a st
  | .er c fs st, _ => .er c fs st
  | .bad, _ => .bad
structure Ext (H F : Hp) (ad : List Addr) (H' F' : Hp) (ad' : List Addr) : Prop where
  pre : ∃ zs, ad' = ad ++ zs
  fz : Same F F'
  kp : ∀ b o, b ∉ ad → H b = some o → H' b = some o
  dm : ∀ b, H' b = none → H b = none
  nw : ∀ b o, F' b = some o → F b = some o ∨ H b = none
  na : ∀ b ∈ ad', b ∈ ad ∨ H b = none
theorem Ext.refl {H F : Hp} {ad : List Addr} : Ext H F ad H F ad := ⟨⟨[], (List.append_nil _).symm⟩, Same.refl _, fun _ _ _ h => h, fun _ h => h, fun _ _ h => .inl h, fun _ h => .inl h⟩
theorem Ext.trans {H F H1 F1 H2 F2 : Hp} {ad ad1 ad2 : List Addr} (a : Ext H F ad H1 F1 ad1) (b : Ext H1 F1 ad1 H2 F2 ad2) : Ext H F ad H2 F2 ad2 := by
  obtain ⟨zs, ez⟩ := a.pre
  obtain ⟨ys, ey⟩ := b.pre
  refine ⟨⟨zs ++ ys, by rw [ey, ez, List.append_assoc]⟩, a.fz.trans b.fz, fun c o n h => ?_, fun c h => a.dm c (b.dm c h), fun c o h => ?_, fun c h => ?_⟩
  · refine b.kp c o (fun z => ?_) (a.kp c o n h)
    rcases a.na c z with z | z
    · exact n z
    · rw [h] at z; cases z
  · rcases b.nw c o h with h | h
    · exact a.nw c o h
    · exact .inr (a.dm c h)
  · rcases b.na c h with h | h
    · exact a.na c h
    · exact .inr (a.dm c h)
/-- an own class -/
structure ClsOk (K : PySem.W.Frag) (C : Addr) : Prop where
  cl : Cls K C
  tc : PySem.W.findIn K (.ref C) "__class__" = some (some (.builtin "object.__class__"))
  tg : PySem.W.specialIn K (.builtin "object.__class__") "__get__" = some (some (.builtin "getset_descriptor.__get__"))
  tk : PySem.W.takesIn K (.builtin "object.__class__") = some true
  tm : PySem.W.mroIn K C (.type "object") = some true
  o : ∀ T ∈ ["int", "bool", "str", "list", "tuple", "dict"], PySem.W.kitOne K (.ref C) (.type T) = some false
  i : ∀ T ∈ ["int", "bool", "str", "list", "tuple", "dict", "NoneType"], PySem.W.kitOne K (.type T) (.ref C) = some false
/-- what is static -/
structure Ga where
  K : PySem.W.Frag
  ca : String → Addr
  cs : List String
  cok : ∀ c ∈ cs, ClsOk K (ca c)
  kit : ∀ c ∈ cs, ∀ e ∈ cs, PySem.W.kitOne K (.ref (ca c)) (.ref (ca e)) = some (decide (c = e))
  /-- what is known besides (in an except suite: the error) -/
  jv : Hp → List Addr → L2.St → Prop
  jm : ∀ {H F H' F' : Hp} {ad ad' : List Addr} {σ : L2.St}, Ext H F ad H' F' ad' → jv F ad σ → jv F' ad' σ
  /-- own exceptions -/
  xs : List String
  xm : ∀ c ∈ xs, ∀ e ∈ xs, PySem.W.exmOne K (.ref (ca c)) (.ref (ca e)) = some (decide (c = e))
def Ga.Stb (G : Ga) : Prop := ∀ (F : Hp) (ad : List Addr) (σ : L2.St) (i : Nat) (v : Option V), G.jv F ad σ → G.jv F ad (σ.set i v)
theorem ofS_inj {a b : String} (h : Str.ofString a = Str.ofString b) : a = b := by
  rw [Str.ofString_eq_toList, Str.ofString_eq_toList] at h
  injection h with h
  have h := Array.toList_inj.mpr h
  apply String.toList_inj.mp
  revert h
  generalize a.toList = x
  generalize b.toList = y
  intro h
  induction x generalizing y with
  | nil =>
    cases y with
    | nil => rfl
    | cons d y => simp at h
  | cons c x ih =>
    cases y with
    | nil => simp at h
    | cons d y =>
      simp only [List.map_cons, List.cons.injEq] at h
      rw [ih y h.2]
      have : c = d := by
        apply Char.ext
        apply UInt32.toNat_inj.mp
        exact h.1
      rw [this]
mutual
inductive Rep (G : Ga) (F : Hp) : V → D → Prop
  | non : Rep G F .non .non
  | bl (b : Bool) : Rep G F (.bl b) (.bl b)
  | int (i : Int) : Rep G F (.int i) (.int i)
  | str (x : Str) : Rep G F (.str x) (.str x)
  | lst {a : Addr} {vs : List V} {ds : List D} (h : F a = some (.lst vs)) (t : Reps G F vs ds) : Rep G F (.ref a) (.lst ds)
  | tup {a : Addr} {vs : List V} {ds : List D} (h : SqT G.K F a vs) (t : Reps G F vs ds) : Rep G F (.ref a) (.tup ds)
  | obj {a dx : Addr} {vfs : List (Str × V)} {c : String} {fs : List (String × D)} (hc : c ∈ G.cs) (h : F a = some (.ins (G.ca c) dx vfs)) (t : Repf G F vfs fs) : Rep G F (.ref a) (.obj c fs)
  | cls (c : String) (hc : c ∈ G.cs) : Rep G F (.ref (G.ca c)) (.cls c)
  | ty (n : String) : Rep G F (.ty n) (.ty n)
  | lck {a : Addr} {ns : List Int} (h : SqL G.K F a (ns.map V.int)) : Rep G F (.ref a) (.lck ns)
  | idn {a : Addr} {x : D} (h : Rep G F (.ref a) x) : Rep G F (.ref a) (.idn x a)
inductive Reps (G : Ga) (F : Hp) : List V → List D → Prop
  | nil : Reps G F [] []
  | cons {v : V} {d : D} {vs : List V} {ds : List D} (h : Rep G F v d) (t : Reps G F vs ds) : Reps G F (v :: vs) (d :: ds)
inductive Repf (G : Ga) (F : Hp) : List (Str × V) → List (String × D) → Prop
  | nil : Repf G F [] []
  | cons {f : String} {v : V} {d : D} {vs : List (Str × V)} {ds : List (String × D)} (h : Rep G F v d) (t : Repf G F vs ds) : Repf G F ((Str.ofString f, v) :: vs) ((f, d) :: ds)
end
theorem sqT_same {K : PySem.W.Frag} {H H' : Hp} {a : Addr} {xs : List V} (e : Same H H') (h : SqT K H a xs) : SqT K H' a xs := by
  rcases h with (h | ⟨o, h⟩) | h
  · exact .inl (.inl (e _ _ h))
  · exact .inl (.inr ⟨o, e _ _ h⟩)
  · exact .inr h
mutual
theorem Rep.same {G : Ga} {F F' : Hp} (e : Same F F') : ∀ {v : V} {d : D}, Rep G F v d → Rep G F' v d
  | _, _, .non => .non
  | _, _, .bl b => .bl b
  | _, _, .int i => .int i
  | _, _, .str x => .str x
  | _, _, .lst h t => .lst (e _ _ h) (Reps.same e t)
  | _, _, .tup h t => .tup (sqT_same e h) (Reps.same e t)
  | _, _, .obj hc h t => .obj hc (e _ _ h) (Repf.same e t)
  | _, _, .cls c hc => .cls c hc
  | _, _, .ty n => .ty n
  | _, _, .lck h => .lck (e.seq h)
  | _, _, .idn h => .idn (Rep.same e h)
theorem Reps.same {G : Ga} {F F' : Hp} (e : Same F F') : ∀ {v : List V} {d : List D}, Reps G F v d → Reps G F' v d
  | _, _, .nil => .nil
  | _, _, .cons h t => .cons (Rep.same e h) (Reps.same e t)
theorem Repf.same {G : Ga} {F F' : Hp} (e : Same F F') : ∀ {v : List (Str × V)} {d : List (String × D)}, Repf G F v d → Repf G F' v d
  | _, _, .nil => .nil
  | _, _, .cons h t => .cons (Rep.same e h) (Repf.same e t)
end
def RepV (G : Ga) (F : Hp) (ad : List Addr) (v : V) : Va → Prop
  | .d x => Rep G F v x
  | .ref n => ∃ a, ad[n]? = some a ∧ v = .ref a
abbrev RepVs (G : Ga) (F : Hp) (ad : List Addr) : List V → List Va → Prop := Paired (RepV G F ad)
abbrev RepFs (G : Ga) (F : Hp) (ad : List Addr) : List (Str × V) → List (String × Va) → Prop := Paired fun p q => p.1 = Str.ofString q.1 ∧ RepV G F ad p.2 q.2
theorem Reps.va {G : Ga} {F : Hp} {ad : List Addr} : ∀ {vs : List V} {ds : List D}, Reps G F vs ds → RepVs G F ad vs (ds.map Va.d)
  | _, _, .nil => .nil
  | _, _, .cons h t => .cons h (Reps.va t)
theorem Reps.of {G : Ga} {F : Hp} {ad : List Addr} : ∀ {vs : List V} {ds : List D}, RepVs G F ad vs (ds.map Va.d) → Reps G F vs ds
  | [], [], _ => .nil
  | _ :: _, [], h => by cases h
  | [], _ :: _, h => by cases h
  | _ :: _, _ :: _, .cons h t => .cons h (Reps.of t)
theorem Repf.va {G : Ga} {F : Hp} {ad : List Addr} : ∀ {vs : List (Str × V)} {ds : List (String × D)}, Repf G F vs ds → RepFs G F ad vs (ds.map fun p => (p.1, Va.d p.2))
  | _, _, .nil => .nil
  | _, _, .cons h t => .cons ⟨rfl, h⟩ (Repf.va t)
theorem Repf.of {G : Ga} {F : Hp} {ad : List Addr} : ∀ {vs : List (Str × V)} {ds : List (String × D)}, RepFs G F ad vs (ds.map fun p => (p.1, Va.d p.2)) → Repf G F vs ds
  | [], [], _ => .nil
  | _ :: _, [], h => by cases h
  | [], _ :: _, h => by cases h
  | (_, _) :: _, (_, _) :: _, .cons ⟨e, h⟩ t => by
    cases e
    exact .cons h (Repf.of t)
theorem Reps.length {G : Ga} {F : Hp} : ∀ {vs : List V} {ds : List D}, Reps G F vs ds → vs.length = ds.length
  | _, _, .nil => rfl
  | _, _, .cons _ t => congrArg Nat.succ (Reps.length t)
theorem Reps.get {G : Ga} {F : Hp} : ∀ {vs : List V} {ds : List D} {i : Nat} {d : D}, Reps G F vs ds → ds[i]? = some d → ∃ v, vs[i]? = some v ∧ Rep G F v d
  | _, _, _, _, .nil, e => by simp at e
  | _, _, 0, _, .cons h _, e => by simp at e; subst e; exact ⟨_, rfl, h⟩
  | _, _, i + 1, d, .cons _ t, e => by
    obtain ⟨v, h1, h2⟩ := Reps.get (i := i) (d := d) t (by simpa using e)
    exact ⟨v, by simpa using h1, h2⟩
/-- what stands at a cell -/
def ObjR (G : Ga) (F : Hp) (ad : List Addr) (H : Hp) (a : Addr) : MO → Prop
  | .lst ds => ∃ vs, H a = some (.lst vs) ∧ RepVs G F ad vs ds
  | .obj c fs => c ∈ G.cs ∧ ∃ dx vfs, H a = some (.ins (G.ca c) dx vfs) ∧ RepFs G F ad vfs fs
  | .dct _ => False
theorem ObjR.there {G : Ga} {F : Hp} {ad : List Addr} {H : Hp} {a : Addr} {o : MO} (h : ObjR G F ad H a o) : ∃ u, H a = some u := by
  cases o with
  | lst ds => obtain ⟨vs, e, _⟩ := h; exact ⟨_, e⟩
  | obj c fs => obtain ⟨_, dx, vfs, e, _⟩ := h; exact ⟨_, e⟩
  | dct kvs => exact h.elim
theorem nodup_get {α : Type} : ∀ {l : List α} {k n : Nat} {a : α}, l.Nodup → l[k]? = some a → l[n]? = some a → k = n
  | [], _, _, _, _, h, _ => by simp at h
  | _ :: _, 0, 0, _, _, _, _ => rfl
  | x :: l, 0, n + 1, a, hd, h, h2 => by
    simp at h h2
    subst h
    exact absurd (List.mem_of_getElem? h2) (List.nodup_cons.mp hd).1
  | x :: l, k + 1, 0, a, hd, h, h2 => by
    simp at h h2
    subst h2
    exact absurd (List.mem_of_getElem? h) (List.nodup_cons.mp hd).1
  | x :: l, k + 1, n + 1, a, hd, h, h2 => by
    simp at h h2
    rw [nodup_get (List.nodup_cons.mp hd).2 h h2]
structure SR (G : Ga) (H F : Hp) (ad : List Addr) (st : Sto) : Prop where
  sub : Same F H
  len : ad.length = st.length
  nd : ad.Nodup
  dis : ∀ a ∈ ad, F a = none
  ob : ∀ (n : Nat) a o, ad[n]? = some a → st[n]? = some o → ObjR G F ad H a o
section
variable {G : Ga} {H F H' F' : Hp} {ad ad' : List Addr} {st : Sto}
theorem Ext.at_ (e : Ext H F ad H' F' ad') {n : Nat} {a : Addr} (h : ad[n]? = some a) : ad'[n]? = some a := by
  obtain ⟨zs, ez⟩ := e.pre
  rw [ez, List.getElem?_append_left (List.getElem?_eq_some_iff.mp h).1]
  exact h
theorem RepV.ext (e : Ext H F ad H' F' ad') {v : V} {d : Va} (h : RepV G F ad v d) : RepV G F' ad' v d := by
  cases d with
  | d x => exact Rep.same e.fz h
  | ref n =>
    obtain ⟨a, h1, h2⟩ := h
    exact ⟨a, e.at_ h1, h2⟩
theorem RepVs.ext (e : Ext H F ad H' F' ad') {vs : List V} {ds : List Va} (h : RepVs G F ad vs ds) : RepVs G F' ad' vs ds := Paired.mono (fun _ _ z => z.ext e) h
theorem RepFs.ext (e : Ext H F ad H' F' ad') {vs : List (Str × V)} {ds : List (String × Va)} (h : RepFs G F ad vs ds) : RepFs G F' ad' vs ds := Paired.mono (fun _ _ z => ⟨z.1, z.2.ext e⟩) h
theorem SR.there (S : SR G H F ad st) {a : Addr} (h : a ∈ ad) : ∃ u, H a = some u := by
  obtain ⟨n, e⟩ := List.mem_iff_getElem?.mp h
  have hn : n < st.length := by
    have := (List.getElem?_eq_some_iff.mp e).1
    rw [S.len] at this
    exact this
  exact (S.ob n a _ e (List.getElem?_eq_getElem hn)).there
theorem SR.get (S : SR G H F ad st) {n : Nat} {a : Addr} {o : MO} (h : ad[n]? = some a) (ho : st[n]? = some o) : ObjR G F ad H a o := S.ob n a o h ho
/-- a new frozen thing -/
theorem ext_new (S : SR G H F ad st) {p : Addr} {o : HO} (hp : H p = none) : Ext H F ad (upd H p o) (upd F p o) ad := by
  have fp : F p = none := S.sub.free hp
  refine ⟨⟨[], (List.append_nil _).symm⟩, fun b u h => ?_, fun b u _ h => ?_, fun b h => ?_, fun b u h => ?_, fun _ h => .inl h⟩
  · rw [upd_ne (ne_of_none h fp)]; exact h
  · rw [upd_ne (ne_of_none h hp)]; exact h
  · by_cases e : b = p
    · rw [e]; exact hp
    · rw [upd_ne e] at h; exact h
  · by_cases e : b = p
    · rw [e]; exact .inr hp
    · rw [upd_ne e] at h; exact .inl h
theorem ObjR.mono {a : Addr} {o : MO} (e : Ext H F ad H' F' ad') (eq : H' a = H a) (h : ObjR G F ad H a o) : ObjR G F' ad' H' a o := by
  cases o with
  | lst ds => obtain ⟨vs, z, r⟩ := h; exact ⟨vs, by rw [eq]; exact z, RepVs.ext e r⟩
  | obj c fs => obtain ⟨hc, dx, vfs, z, r⟩ := h; exact ⟨hc, dx, vfs, by rw [eq]; exact z, RepFs.ext e r⟩
  | dct kvs => exact h.elim
theorem SR.new (S : SR G H F ad st) {p : Addr} {o : HO} (hp : H p = none) : SR G (upd H p o) (upd F p o) ad st := by
  have E := ext_new S (o := o) hp
  have ne : ∀ a ∈ ad, a ≠ p := fun a h e => by
    obtain ⟨u, hu⟩ := S.there h
    rw [e, hp] at hu
    cases hu
  refine ⟨fun b u h => ?_, S.len, S.nd, fun a h => ?_, fun n a m h hm => ?_⟩
  · by_cases e : b = p
    · rw [e, upd_same] at h
      rw [e, upd_same]
      exact h
    · rw [upd_ne e] at h
      rw [upd_ne e]
      exact S.sub b u h
  · rw [upd_ne (ne a h)]
    exact S.dis a h
  · exact (S.ob n a m h hm).mono E (upd_ne (ne a (List.mem_of_getElem? h)))
/-- a new cell -/
theorem ext_cell (S : SR G H F ad st) {p : Addr} {o : HO} (hp : H p = none) : Ext H F ad (upd H p o) F (ad ++ [p]) := by
  refine ⟨⟨[p], rfl⟩, Same.refl _, fun b u _ h => ?_, fun b h => ?_, fun b u h => .inl h, fun b h => ?_⟩
  · rw [upd_ne (ne_of_none h hp)]; exact h
  · by_cases e : b = p
    · rw [e]; exact hp
    · rw [upd_ne e] at h; exact h
  · rcases List.mem_append.mp h with h | h
    · exact .inl h
    · have : b = p := by simpa using h
      rw [this]
      exact .inr hp
theorem SR.cell (S : SR G H F ad st) {p : Addr} {o : HO} {m : MO} (hp : H p = none) (hm : ObjR G F (ad ++ [p]) (upd H p o) p m) : SR G (upd H p o) F (ad ++ [p]) (st ++ [m]) := by
  have E := ext_cell S (o := o) hp
  have ne : ∀ a ∈ ad, a ≠ p := fun a h e => by
    obtain ⟨u, hu⟩ := S.there h
    rw [e, hp] at hu
    cases hu
  have fp : F p = none := S.sub.free hp
  refine ⟨fun b u h => ?_, by rw [List.length_append, List.length_append, S.len]; rfl, ?_, fun a h => ?_, fun n a u h hu => ?_⟩
  · rw [upd_ne (ne_of_none h fp)]
    exact S.sub b u h
  · rw [List.nodup_append]
    refine ⟨S.nd, by simp, fun a ha b hb => ?_⟩
    have : b = p := by simpa using hb
    rw [this]
    exact ne a ha
  · rcases List.mem_append.mp h with h | h
    · exact S.dis a h
    · have : a = p := by simpa using h
      rw [this]; exact fp
  · by_cases hn : n < ad.length
    · rw [List.getElem?_append_left hn] at h
      rw [List.getElem?_append_left (by rw [← S.len]; exact hn)] at hu
      exact (S.ob n a u h hu).mono E (upd_ne (ne a (List.mem_of_getElem? h)))
    · have hl : n < (ad ++ [p]).length := (List.getElem?_eq_some_iff.mp h).1
      have e : n = ad.length := by
        rw [List.length_append] at hl
        simp at hl
        omega
      subst e
      rw [List.getElem?_append_right (Nat.le_refl _), Nat.sub_self] at h
      rw [S.len, List.getElem?_append_right (Nat.le_refl _), Nat.sub_self] at hu
      have e1 : p = a := by simpa using h
      have e2 : m = u := by simpa using hu
      rw [← e1, ← e2]
      exact hm
/-- a cell is changed -/
theorem ext_mut {n : Nat} {a : Addr} {o : HO} (S : SR G H F ad st) (h : ad[n]? = some a) : Ext H F ad (upd H a o) F ad := by
  refine ⟨⟨[], (List.append_nil _).symm⟩, Same.refl _, fun b u hb h1 => ?_, fun b hb => ?_, fun b u h => .inl h, fun b h => .inl h⟩
  · rw [upd_ne (fun e => hb (by rw [e]; exact List.mem_of_getElem? h))]
    exact h1
  · by_cases e : b = a
    · rw [e, upd_same] at hb; cases hb
    · rw [upd_ne e] at hb; exact hb
theorem SR.mut {n : Nat} {a : Addr} {o : HO} {m : MO} (S : SR G H F ad st) (h : ad[n]? = some a) (hm : ObjR G F ad (upd H a o) a m) : SR G (upd H a o) F ad (st.set n m) := by
  have E := ext_mut (o := o) S h
  refine ⟨fun b u hb => ?_, by rw [List.length_set, S.len], S.nd, S.dis, fun k b u hb hu => ?_⟩
  · have ne : b ≠ a := fun e => by
      have := S.dis a (List.mem_of_getElem? h)
      rw [e, this] at hb
      cases hb
    rw [upd_ne ne]
    exact S.sub b u hb
  · by_cases hk : k = n
    · subst hk
      have e1 : a = b := by rw [h] at hb; exact Option.some.inj hb
      have hlt : k < st.length := by rw [← S.len]; exact (List.getElem?_eq_some_iff.mp h).1
      rw [List.getElem?_set_self hlt] at hu
      have e2 : m = u := Option.some.inj hu
      rw [← e1, ← e2]
      exact hm
    · rw [List.getElem?_set_ne (fun e => hk e.symm)] at hu
      have ne : b ≠ a := fun e => by
        rw [e] at hb
        exact hk (nodup_get S.nd hb h)
      exact (S.ob k b u hb hu).mono E (upd_ne ne)
end
/-! slots -/
structure RelE (G : Ga) (F : Hp) (ad : List Addr) (σ : L2.St) (ρ : Ev) : Prop where
  len : σ.length = ρ.length
  at_ : ∀ (i : Nat) d, ρ[i]? = some (some d) → ∃ v, σ[i]? = some (some v) ∧ RepV G F ad v d
  j : G.jv F ad σ
section
variable {G : Ga} {H F H' F' : Hp} {ad ad' : List Addr} {st : Sto} {σ : L2.St} {ρ : Ev}
theorem RelE.ext (e : Ext H F ad H' F' ad') (h : RelE G F ad σ ρ) : RelE G F' ad' σ ρ := ⟨h.len, fun i d z => by
  obtain ⟨v, h1, h2⟩ := h.at_ i d z
  exact ⟨v, h1, h2.ext e⟩, G.jm e h.j⟩
theorem RelE.set {i : Nat} {v : V} {d : Va} (hs : G.Stb) (h : RelE G F ad σ ρ) (r : RepV G F ad v d) : RelE G F ad (σ.set i (some v)) (ρ.set i (some d)) := by
  refine ⟨by rw [List.length_set, List.length_set, h.len], fun j u e => ?_, hs _ _ _ _ _ h.j⟩
  by_cases hj : i = j
  · subst hj
    have hl : i < ρ.length := by
      have := (List.getElem?_eq_some_iff.mp e).1
      rw [List.length_set] at this
      exact this
    rw [List.getElem?_set_self hl] at e
    have : d = u := by simpa using e
    rw [← this]
    exact ⟨v, List.getElem?_set_self (by rw [h.len]; exact hl), r⟩
  · rw [List.getElem?_set_ne hj] at e
    obtain ⟨v', h1, h2⟩ := h.at_ j u e
    exact ⟨v', by rw [List.getElem?_set_ne hj]; exact h1, h2⟩
end
/-! what is wanted behind -/
def ErrR (G : Ga) (F : Hp) (ad : List Addr) (c : String) (fs : List (String × Va)) (cls : Value) (d : Option Addr) : Prop :=
  c ∈ G.xs ∧ cls = .ref (G.ca c) ∧ ((fs = [] ∧ d = none) ∨ ∃ dx vfs, d = some dx ∧ F dx = some (.xd vfs) ∧ RepFs G F ad vfs fs)
def Po {α : Type} (G : Ga) (W : Value → Option Addr → Hp → Prop) (H F : Hp) (ad : List Addr) (P : α → Sto → Hp → Hp → List Addr → Prop) : Res α → Prop
  | .ok a st => ∀ H' F' ad', Ext H F ad H' F' ad' → SR G H' F' ad' st → P a st H' F' ad'
  | .er c fs st => ∀ H' F' ad' cls d, Ext H F ad H' F' ad' → SR G H' F' ad' st → ErrR G F' ad' c fs cls d → W cls d H'
  | .bad => False
theorem Po.from {α : Type} {G : Ga} {W : Value → Option Addr → Hp → Prop} {H F H1 F1 : Hp} {ad ad1 : List Addr} {P : α → Sto → Hp → Hp → List Addr → Prop} {r : Res α} (e : Ext H F ad H1 F1 ad1) (h : Po G W H F ad P r) : Po G W H1 F1 ad1 P r := by
  cases r with
  | ok a st => exact fun H' F' ad' e' S => h H' F' ad' (e.trans e') S
  | er c fs st => exact fun H' F' ad' cls d e' S z => h H' F' ad' cls d (e.trans e') S z
  | bad => exact h
theorem Po.bind {α β : Type} {G : Ga} {W : Value → Option Addr → Hp → Prop} {H F : Hp} {ad : List Addr} {P : β → Sto → Hp → Hp → List Addr → Prop} {r : Res α} {k : α → Sto → Res β} (h : Po G W H F ad P (r.bind k)) :
    Po G W H F ad (fun a st H' F' ad' => Po G W H' F' ad' P (k a st)) r := by
  cases r with
  | ok a st => exact fun H' F' ad' e _ => Po.from e h
  | er c fs st => exact h
  | bad => exact h
def PoS (G : Ga) (W : L2.WX) (H F : Hp) (ad : List Addr) (D : Ends) : Out → Prop
  | .nx ρ st => ∀ H' F' ad' σ', Ext H F ad H' F' ad' → SR G H' F' ad' st → RelE G F' ad' σ' ρ → D.nx σ' H'
  | .rt d st => ∀ H' F' ad' v, Ext H F ad H' F' ad' → SR G H' F' ad' st → RepV G F' ad' v d → D.rt v H'
  | .bk ρ st => ∀ H' F' ad' σ', Ext H F ad H' F' ad' → SR G H' F' ad' st → RelE G F' ad' σ' ρ → D.bk σ' H'
  | .ct ρ st => ∀ H' F' ad' σ', Ext H F ad H' F' ad' → SR G H' F' ad' st → RelE G F' ad' σ' ρ → D.ct σ' H'
  | .er c fs ρ st => ∀ H' F' ad' σ' cls d, Ext H F ad H' F' ad' → SR G H' F' ad' st → RelE G F' ad' σ' ρ → ErrR G F' ad' c fs cls d → W cls d σ' H'
  | .bad => False
theorem PoS.from {G : Ga} {W : L2.WX} {H F H1 F1 : Hp} {ad ad1 : List Addr} {D : Ends} {o : Out} (e : Ext H F ad H1 F1 ad1) (h : PoS G W H F ad D o) : PoS G W H1 F1 ad1 D o := by
  cases o with
  | nx ρ st => exact fun H' F' ad' σ' e' => h H' F' ad' σ' (e.trans e')
  | rt d st => exact fun H' F' ad' σ' e' => h H' F' ad' σ' (e.trans e')
  | bk ρ st => exact fun H' F' ad' σ' e' => h H' F' ad' σ' (e.trans e')
  | ct ρ st => exact fun H' F' ad' σ' e' => h H' F' ad' σ' (e.trans e')
  | er c fs ρ st => exact fun H' F' ad' σ' cls d e' => h H' F' ad' σ' cls d (e.trans e')
  | bad => exact h
/-! readings beside mirrors -/
def SimE (G : Ga) (W : L2.WX) (t : TE) (m : ME) : Prop := ∀ (σ : L2.St) (ρ : Ev) (H F : Hp) (ad : List Addr) (st : Sto) (Q : VK), RelE G F ad σ ρ → SR G H F ad st →
  Po G (fun c d H' => W c d σ H') H F ad (fun d _ H' F' ad' => ∀ v, RepV G F' ad' v d → Q v H') (m ρ st) → t σ H Q
def SimT (G : Ga) (W : L2.WX) (t : TT) (m : MT) : Prop := ∀ (σ : L2.St) (ρ : Ev) (H F : Hp) (ad : List Addr) (st : Sto) (Q : Bool → Hp → Prop), RelE G F ad σ ρ → SR G H F ad st →
  Po G (fun c d H' => W c d σ H') H F ad (fun b _ H' _ _ => Q b H') (m ρ st) → t σ H Q
def SimA (G : Ga) (W : L2.WX) (t : TA) (m : MA) : Prop := ∀ (σ : L2.St) (ρ : Ev) (H F : Hp) (ad : List Addr) (st : Sto) (Q : List V → Hp → Prop), RelE G F ad σ ρ → SR G H F ad st →
  Po G (fun c d H' => W c d σ H') H F ad (fun ds _ H' F' ad' => ∀ vs, RepVs G F' ad' vs ds → Q vs H') (m ρ st) → t σ H Q
def SimS (G : Ga) (W : L2.WX) (t : TS) (m : MS) : Prop := ∀ (σ : L2.St) (ρ : Ev) (H F : Hp) (ad : List Addr) (st : Sto) (D : Ends), RelE G F ad σ ρ → SR G H F ad st →
  PoS G W H F ad D (m ρ st) → t D σ H
def DE (G : Ga) (W : L2.WX) (X : Cx) (e : Expr) (m : ME) : Prop := ∃ t, PE X e t ∧ SimE G W t m
def DT (G : Ga) (W : L2.WX) (X : Cx) (e : Expr) (m : MT) : Prop := ∃ t, PT X e t ∧ SimT G W t m
def DA (G : Ga) (W : L2.WX) (X : Cx) (es : List Expr) (m : MA) : Prop := ∃ t, PA X es t ∧ SimA G W t m
def DS (G : Ga) (W : L2.WX) (X : Cx) (s : Stmt) (m : MS) : Prop := ∃ t, PS X s t ∧ SimS G W t m
def DSs (G : Ga) (W : L2.WX) (X : Cx) (s : List Stmt) (m : MS) : Prop := ∃ t, PSs X s t ∧ SimS G W t m

/-! ### expressions -/
section
variable {G : Ga} {W : L2.WX} {X : Cx}
theorem fin_same {α : Type} {Wv : Value → Option Addr → Hp → Prop} {H F : Hp} {ad : List Addr} {st : Sto} {a : α} {P : α → Sto → Hp → Hp → List Addr → Prop} (S : SR G H F ad st) (h : Po G Wv H F ad P (.ok a st)) : P a st H F ad := h _ _ _ Ext.refl S
abbrev QV (G : Ga) (Q : VK) : Va → Sto → Hp → Hp → List Addr → Prop := fun d _ H' F' ad' => ∀ v, RepV G F' ad' v d → Q v H'
theorem fin_new {Wv : Value → Option Addr → Hp → Prop} {H F : Hp} {ad : List Addr} {st : Sto} {x : D} {o : HO} {p : Addr} {Q : VK} (S : SR G H F ad st) (hp : H p = none) (r : Rep G (upd F p o) (.ref p) x) (h : Po G Wv H F ad (QV G Q) (.ok (.d x) st)) : Q (.ref p) (upd H p o) :=
  h _ _ _ (ext_new S hp) (S.new hp) _ r
/-! leaves -/
def strip : Va → Va
  | .d (.idn x _) => .d x
  | v => v
def mVar (i : Nat) : ME := fun ρ st => match ρ[i]? with
  | some (some d) => .ok (strip d) st
  | _ => .bad
/-- with its identity, where it is known -/
def mVarI (i : Nat) : ME := fun ρ st => match ρ[i]? with
  | some (some d) => .ok d st
  | _ => .bad
theorem strip_ok {F : Hp} {ad : List Addr} {v : V} {d : Va} (h : RepV G F ad v d) : RepV G F ad v (strip d) := by
  cases d with
  | ref n => exact h
  | d x => cases h with
    | idn h => exact h
    | non => exact .non
    | bl b => exact .bl b
    | int i => exact .int i
    | str x => exact .str x
    | lst h t => exact .lst h t
    | tup h t => exact .tup h t
    | obj hc h t => exact .obj hc h t
    | cls c hc => exact .cls c hc
    | ty n => exact .ty n
    | lck h => exact .lck h
def mC (x : D) : ME := fun _ st => .ok (.d x) st
theorem sim_var {i : Nat} : SimE G W (tVar i) (mVar i) := by
  intro σ ρ H F ad st Q R S h
  unfold mVar at h
  split at h
  · rename_i d e
    obtain ⟨v, h1, h2⟩ := R.at_ i d e
    exact ⟨v, h1, fin_same S h v (strip_ok h2)⟩
  · exact h.elim
theorem sim_varI {i : Nat} : SimE G W (tVar i) (mVarI i) := by
  intro σ ρ H F ad st Q R S h
  unfold mVarI at h
  split at h
  · rename_i d e
    obtain ⟨v, h1, h2⟩ := R.at_ i d e
    exact ⟨v, h1, fin_same S h v h2⟩
  · exact h.elim
theorem de_vI {e : Expr} {i : Nat} (h : PE X e (tVar i)) : DE G W X e (mVarI i) := ⟨_, h, sim_varI⟩
theorem de_v {e : Expr} {i : Nat} (h : PE X e (tVar i)) : DE G W X e (mVar i) := ⟨_, h, sim_var⟩
theorem sim_c {v : V} {x : D} (r : ∀ F, Rep G F v x) : SimE G W (tC v) (mC x) := fun σ ρ H F ad st Q R S h => fin_same S h v (r F)
theorem de_c {e : Expr} {v : V} {x : D} (h : PE X e (tC v)) (r : ∀ F, Rep G F v x) : DE G W X e (mC x) := ⟨_, h, sim_c r⟩
theorem de_int {i : Int} {j pos} : DE G W X (.Constant (.int i) j pos) (mC (.int i)) := de_c pe_int fun _ => .int i
theorem de_bl {b : Bool} {j pos} : DE G W X (.Constant (.bool b) j pos) (mC (.bl b)) := de_c pe_bl fun _ => .bl b
theorem de_non {j pos} : DE G W X (.Constant .none j pos) (mC .non) := de_c pe_non fun _ => .non
theorem de_str {x : Str} {j pos} : DE G W X (.Constant (.str x) j pos) (mC (.str x)) := de_c pe_str fun _ => .str x
/-! operators -/
abbrev O2 := Va → Va → Sto → Res Va
def SimR2 (G : Ga) (r : R2) (f : O2) : Prop := ∀ (Wv : Value → Option Addr → Hp → Prop) (x y : V) (dx dy : Va) (H F : Hp) (ad : List Addr) (st : Sto) (Q : VK), RepV G F ad x dx → RepV G F ad y dy → SR G H F ad st → Po G Wv H F ad (QV G Q) (f dx dy st) → r x y H Q
def mBin (f : O2) (a b : ME) : ME := fun ρ st => (a ρ st).bind fun x st => (b ρ st).bind fun y st => f x y st
theorem sim_op {r : R2} {f : O2} {ta tb : TE} {ma mb : ME} (hr : SimR2 G r f) (ha : SimE G W ta ma) (hb : SimE G W tb mb) : SimE G W (tOp r ta tb) (mBin f ma mb) := by
  intro σ ρ H F ad st Q R S h
  refine ha σ ρ H F ad st _ R S ?_
  have h1 := Po.bind h
  revert h1
  generalize ma ρ st = ra
  intro h1
  cases ra with
  | bad => exact h1
  | er c fs st1 => exact h1
  | ok x st1 =>
    intro H1 F1 ad1 e1 S1 v rv
    refine hb σ ρ H1 F1 ad1 st1 _ (R.ext e1) S1 ?_
    have h2 := Po.bind (h1 H1 F1 ad1 e1 S1)
    revert h2
    generalize mb ρ st1 = rb
    intro h2
    cases rb with
    | bad => exact h2
    | er c fs st2 => exact h2
    | ok y st2 =>
      intro H2 F2 ad2 e2 S2 w rw
      exact hr _ v w x y H2 F2 ad2 st2 Q (rv.ext e2) rw S2 (h2 H2 F2 ad2 e2 S2)
theorem de_op {op : Operator} {r : R2} {f : O2} {a b : Expr} {pos : Pos} {ma mb : ME} (ho : OpR X (binaryOp op) r) (hr : SimR2 G r f) (ha : DE G W X a ma) (hb : DE G W X b mb) : DE G W X (.BinOp a op b pos) (mBin f ma mb) := by
  obtain ⟨ta, pa, sa⟩ := ha
  obtain ⟨tb, pb, sb⟩ := hb
  exact ⟨_, pe_op ho pa pb, sim_op hr sa sb⟩
theorem de_cmp {op : CmpOp} {r : R2} {f : O2} {a b : Expr} {pos : Pos} {ma mb : ME} (ho : OpR X (compareOp op) r) (hr : SimR2 G r f) (ha : DE G W X a ma) (hb : DE G W X b mb) (hm : behindInMarks op b = false) : DE G W X (.Compare a [op] [b] pos) (mBin f ma mb) := by
  obtain ⟨ta, pa, sa⟩ := ha
  obtain ⟨tb, pb, sb⟩ := hb
  exact ⟨_, pe_cmpR ho pa pb hm, sim_op hr sa sb⟩
/-- a value as a test, by its bool -/
def mTst (a : ME) : MT := fun ρ st => (a ρ st).bind fun x st => match x with
  | .d (.bl b) => .ok b st
  | _ => .bad
theorem sim_tst {ta : TE} {ma : ME} (ha : SimE G W ta ma) : SimT G W (tTest ta) (mTst ma) := by
  intro σ ρ H F ad st Q R S h
  refine ha σ ρ H F ad st _ R S ?_
  have h1 := Po.bind h
  revert h1
  generalize ma ρ st = ra
  intro h1
  cases ra with
  | bad => exact h1
  | er c fs st1 => exact h1
  | ok x st1 =>
    intro H1 F1 ad1 e1 S1 v rv
    have h2 := h1 H1 F1 ad1 e1 S1
    cases x with
    | ref n => exact h2.elim
    | d x =>
      cases x with
      | bl b =>
        cases rv
        exact ⟨b, rfl, fin_same S1 h2⟩
      | _ => exact h2.elim
theorem dt_cmp {op : CmpOp} {r : R2} {f : O2} {a b : Expr} {pos : Pos} {ma mb : ME} (ho : OpR X (compareOp op) r) (hr : SimR2 G r f) (ha : DE G W X a ma) (hb : DE G W X b mb) (hm : behindInMarks op b = false) : DT G W X (.Compare a [op] [b] pos) (mTst (mBin f ma mb)) := by
  obtain ⟨ta, pa, sa⟩ := ha
  obtain ⟨tb, pb, sb⟩ := hb
  exact ⟨_, pt_cmpR ho pa pb hm, sim_tst (sim_op hr sa sb)⟩
/-! ints -/
instance {i j : Int} : Decidable (CMulW i j) := inferInstanceAs (Decidable (i.natAbs.log2 + j.natAbs.log2 < 1000000))
def CDivX (_ j : Int) : Prop := j ≠ 0 ∧ j.natAbs.log2 < 9000
instance {i j : Int} : Decidable (CDivX i j) := inferInstanceAs (Decidable (_ ∧ _))
instance {i j : Int} : Decidable (CPow i j) := inferInstanceAs (Decidable (_ ∧ _ ∧ _))
theorem op_fdivX : OpR X (binaryOp .FloorDiv) (rI CDivX fun i j => .int (i.fdiv j)) := opI fun i j _ _ _ _ _ hc q => PyProof.Rows.floordiv_int hc.1 q (.inl (PyProof.noPylong_of_log2 hc.2))
def oII (f : Int → Int → D) : O2
  | .d (.int i), .d (.int j), st => .ok (.d (f i j)) st
  | _, _, _ => .bad
def oIC (C : Int → Int → Prop) [∀ i j, Decidable (C i j)] (f : Int → Int → D) : O2
  | .d (.int i), .d (.int j), st => if C i j then .ok (.d (f i j)) st else .bad
  | _, _, _ => .bad
theorem sim_II {g : Int → Int → V} {f : Int → Int → D} (r : ∀ F i j, Rep G F (g i j) (f i j)) : SimR2 G (rI0 g) (oII f) := by
  intro Wv x y dx dy H F ad st Q rx ry S h
  cases dx with
  | ref n => exact h.elim
  | d dx => cases dy with
    | ref n => cases dx <;> exact h.elim
    | d dy => cases dx with
      | int i => cases dy with
        | int j => cases rx; cases ry; exact ⟨i, j, rfl, rfl, fin_same S h _ (r F i j)⟩
        | _ => exact h.elim
      | _ => exact h.elim
theorem sim_IC {C : Int → Int → Prop} [∀ i j, Decidable (C i j)] {g : Int → Int → V} {f : Int → Int → D} (r : ∀ F i j, Rep G F (g i j) (f i j)) : SimR2 G (rI C g) (oIC C f) := by
  intro Wv x y dx dy H F ad st Q rx ry S h
  cases dx with
  | ref n => exact h.elim
  | d dx => cases dy with
    | ref n => cases dx <;> exact h.elim
    | d dy => cases dx with
      | int i => cases dy with
        | int j =>
          cases rx; cases ry
          have h : Po G Wv H F ad (QV G Q) (if C i j then .ok (.d (f i j)) st else .bad) := h
          split at h
          · rename_i hc
            exact ⟨i, j, rfl, rfl, hc, fin_same S h _ (r F i j)⟩
          · exact h.elim
        | _ => exact h.elim
      | _ => exact h.elim
/-- one of two rules, by what is there -/
theorem SimR2.or {r r' : R2} {f f' g : O2} (h : SimR2 G r f) (h' : SimR2 G r' f') (hg : ∀ x y st, g x y st = f x y st ∨ g x y st = f' x y st) : SimR2 G (fun x y H Q => r x y H Q ∨ r' x y H Q) g := by
  intro Wv x y dx dy H F ad st Q rx ry S z
  rcases hg dx dy st with e | e
  · rw [e] at z
    exact .inl (h Wv x y dx dy H F ad st Q rx ry S z)
  · rw [e] at z
    exact .inr (h' Wv x y dx dy H F ad st Q rx ry S z)
def oSub : O2 := oII fun i j => .int (i - j)
def oLt : O2 := oII fun i j => .bl (decide (i < j))
def oLe : O2 := oII fun i j => .bl (decide (i ≤ j))
def oGt : O2 := oII fun i j => .bl (decide (j < i))
def oGe : O2 := oII fun i j => .bl (decide (j ≤ i))
def oFdiv : O2 := oIC CDivX fun i j => .int (i.fdiv j)
def oMod : O2 := oIC (fun _ j => j ≠ 0) fun i j => .int (i.fmod j)
def oPow : O2 := oIC CPow fun i j => .int (i ^ j.toNat)
theorem sim_sub : SimR2 G (rI0 fun i j => .int (i - j)) oSub := sim_II fun _ _ _ => .int _
theorem sim_lt : SimR2 G (rI0 fun i j => .bl (decide (i < j))) oLt := sim_II fun _ _ _ => .bl _
theorem sim_le : SimR2 G (rI0 fun i j => .bl (decide (i ≤ j))) oLe := sim_II fun _ _ _ => .bl _
theorem sim_gt : SimR2 G (rI0 fun i j => .bl (decide (j < i))) oGt := sim_II fun _ _ _ => .bl _
theorem sim_ge : SimR2 G (rI0 fun i j => .bl (decide (j ≤ i))) oGe := sim_II fun _ _ _ => .bl _
theorem sim_fdiv : SimR2 G (rI CDivX fun i j => .int (i.fdiv j)) oFdiv := sim_IC fun _ _ _ => .int _
theorem sim_mod : SimR2 G (rI (fun _ j => j ≠ 0) fun i j => .int (i.fmod j)) oMod := sim_IC fun _ _ _ => .int _
theorem sim_pow : SimR2 G (rI CPow fun i j => .int (i ^ j.toNat)) oPow := sim_IC fun _ _ _ => .int _
/-! + of ints, texts, lists, tuples -/
abbrev cap : Nat := 1000000
theorem cap_ok {n : Nat} (h : n ≤ cap) : n ≤ sizeLine := Nat.le_trans h (by decide)
def oAdd : O2
  | .d (.int i), .d (.int j), st => .ok (.d (.int (i + j))) st
  | .d (.str a), .d (.str b), st => if a.length + b.length ≤ cap then .ok (.d (.str (a ++ b))) st else .bad
  | .d (.lst a), .d (.lst b), st => if a.length + b.length ≤ cap then .ok (.d (.lst (a ++ b))) st else .bad
  | .d (.tup a), .d (.tup b), st => if a.length + b.length ≤ cap then .ok (.d (.tup (a ++ b))) st else .bad
  | _, _, _ => .bad
def rStrAdd : R2 := fun x y H Q => ∃ i j, x = .str i ∧ y = .str j ∧ i.length + j.length ≤ sizeLine ∧ Q (.str (i ++ j)) H
def rAdds (K : PySem.W.Frag) : R2 := fun x y H Q => (rI0 (fun i j => .int (i + j)) x y H Q) ∨ rStrAdd x y H Q ∨ rCat x y H Q ∨ rCatA K x y H Q
theorem op_adds (hK : X.K = G.K) : OpR X (binaryOp .Add) (rAdds G.K) := by
  rw [← hK]
  exact op_add.or (op_add_str.or (op_cat.or op_catA))
theorem Reps.append {F : Hp} : ∀ {vs ws : List V} {ds es : List D}, Reps G F vs ds → Reps G F ws es → Reps G F (vs ++ ws) (ds ++ es)
  | _, _, _, _, .nil, b => b
  | _, _, _, _, .cons h t, b => .cons h (Reps.append t b)
theorem sim_add : SimR2 G (rAdds G.K) oAdd := by
  intro Wv x y dx dy H F ad st Q rx ry S h
  cases dx with
  | ref n => exact h.elim
  | d dx => cases dy with
    | ref n => cases dx <;> exact h.elim
    | d dy => cases dx with
      | int i => cases dy with
        | int j => cases rx; cases ry; exact .inl ⟨i, j, rfl, rfl, fin_same S h _ (.int _)⟩
        | _ => exact h.elim
      | str a => cases dy with
        | str b =>
          cases rx; cases ry
          have h : Po G Wv H F ad (QV G Q) (if a.length + b.length ≤ cap then .ok (.d (.str (a ++ b))) st else .bad) := h
          split at h
          · rename_i hc
            exact .inr (.inl ⟨a, b, rfl, rfl, cap_ok hc, fin_same S h _ (.str _)⟩)
          · exact h.elim
        | _ => exact h.elim
      | lst a => cases dy with
        | lst b =>
          have h : Po G Wv H F ad (QV G Q) (if a.length + b.length ≤ cap then .ok (.d (.lst (a ++ b))) st else .bad) := h
          split at h
          · rename_i hc
            cases rx with
            | @lst p vs _ h1 t1 => cases ry with
              | @lst q ws _ h2 t2 =>
                refine .inr (.inr (.inl ⟨p, q, vs, ws, rfl, rfl, S.sub _ _ h1, S.sub _ _ h2, ?_, fun z hz => ?_⟩))
                · rw [t1.length, t2.length]; exact cap_ok hc
                · exact fin_new S hz (.lst upd_same ((t1.append t2).same (ext_new S hz).fz)) h
          · exact h.elim
        | _ => exact h.elim
      | tup a => cases dy with
        | tup b =>
          have h : Po G Wv H F ad (QV G Q) (if a.length + b.length ≤ cap then .ok (.d (.tup (a ++ b))) st else .bad) := h
          split at h
          · rename_i hc
            cases rx with
            | @tup p vs _ h1 t1 => cases ry with
              | @tup q ws _ h2 t2 =>
                refine .inr (.inr (.inr ⟨p, q, vs, ws, rfl, rfl, sqT_same S.sub h1, sqT_same S.sub h2, ?_, fun e => ?_, fun e1 e2 => ?_, fun _ _ z hz => ?_⟩))
                · rw [t1.length, t2.length]; exact cap_ok hc
                · subst e
                  cases t1
                  exact fin_same S h _ (.tup h2 t2)
                · subst e2
                  cases t2
                  rw [List.append_nil] at h
                  exact fin_same S h _ (.tup h1 t1)
                · exact fin_new S hz (.tup (SqT.of upd_same) ((t1.append t2).same (ext_new S hz).fz)) h
          · exact h.elim
        | _ => exact h.elim
      | _ => exact h.elim
/-! * of ints; of a list and an int -/
def oMul : O2
  | .d (.int i), .d (.int j), st => if CMulW i j then .ok (.d (.int (i * j))) st else .bad
  | .d (.lst a), .d (.int j), st => if j ≤ 1000000 ∧ -1000000 ≤ j ∧ a.length * j.toNat ≤ cap then .ok (.d (.lst (List.replicate j.toNat a).flatten)) st else .bad
  | _, _, _ => .bad
def rMuls : R2 := fun x y H Q => rI CMulW (fun i j => .int (i * j)) x y H Q ∨ rRep x y H Q
theorem op_muls : OpR X (binaryOp .Mult) rMuls := op_mulW.or op_rep
theorem Reps.rep {F : Hp} {vs : List V} {ds : List D} (h : Reps G F vs ds) : ∀ k : Nat, Reps G F (List.replicate k vs).flatten (List.replicate k ds).flatten
  | 0 => .nil
  | k + 1 => by
    rw [List.replicate_succ, List.replicate_succ, List.flatten_cons, List.flatten_cons]
    exact h.append (h.rep k)
theorem sim_mul : SimR2 G rMuls oMul := by
  intro Wv x y dx dy H F ad st Q rx ry S h
  cases dx with
  | ref n => exact h.elim
  | d dx => cases dy with
    | ref n => cases dx <;> exact h.elim
    | d dy => cases dx with
      | int i => cases dy with
        | int j =>
          cases rx; cases ry
          have h : Po G Wv H F ad (QV G Q) (if CMulW i j then .ok (.d (.int (i * j))) st else .bad) := h
          split at h
          · rename_i hc
            exact .inl ⟨i, j, rfl, rfl, hc, fin_same S h _ (.int _)⟩
          · exact h.elim
        | _ => exact h.elim
      | lst a => cases dy with
        | int j =>
          have h : Po G Wv H F ad (QV G Q) (if j ≤ 1000000 ∧ -1000000 ≤ j ∧ a.length * j.toNat ≤ cap then .ok (.d (.lst (List.replicate j.toNat a).flatten)) st else .bad) := h
          split at h
          · rename_i hc
            cases rx with
            | @lst p vs _ h1 t1 =>
              cases ry
              refine .inr ⟨p, j, vs, rfl, rfl, S.sub _ _ h1, by omega, by omega, ?_, fun z hz => ?_⟩
              · rw [t1.length]; exact cap_ok hc.2.2
              · exact fin_new S hz (.lst upd_same ((t1.rep j.toNat).same (ext_new S hz).fz)) h
          · exact h.elim
        | _ => exact h.elim
      | _ => exact h.elim
/-! unary -/
abbrev O1 := Va → Sto → Res Va
def SimR1 (G : Ga) (r : V → Hp → VK → Prop) (f : O1) : Prop := ∀ (Wv : Value → Option Addr → Hp → Prop) (x : V) (dx : Va) (H F : Hp) (ad : List Addr) (st : Sto) (Q : VK), RepV G F ad x dx → SR G H F ad st → Po G Wv H F ad (QV G Q) (f dx st) → r x H Q
def mUn (f : O1) (a : ME) : ME := fun ρ st => (a ρ st).bind fun x st => f x st
theorem sim_un {r : V → Hp → VK → Prop} {f : O1} {ta : TE} {ma : ME} (hr : SimR1 G r f) (ha : SimE G W ta ma) : SimE G W (tUn r ta) (mUn f ma) := by
  intro σ ρ H F ad st Q R S h
  refine ha σ ρ H F ad st _ R S ?_
  have h1 := Po.bind h
  revert h1
  generalize ma ρ st = ra
  intro h1
  cases ra with
  | bad => exact h1
  | er c fs st1 => exact h1
  | ok x st1 =>
    intro H1 F1 ad1 e1 S1 v rv
    exact hr _ v x H1 F1 ad1 st1 Q rv S1 (h1 H1 F1 ad1 e1 S1)
def oNeg : O1
  | .d (.int i), st => .ok (.d (.int (-i))) st
  | _, _ => .bad
theorem sim_neg : SimR1 G (rU fun i => .int (-i)) oNeg := by
  intro Wv x dx H F ad st Q rx S h
  cases dx with
  | ref n => exact h.elim
  | d dx => cases dx with
    | int i => cases rx; exact ⟨i, rfl, fin_same S h _ (.int _)⟩
    | _ => exact h.elim
theorem de_neg {a : Expr} {pos : Pos} {ma : ME} (ha : DE G W X a ma) : DE G W X (.UnaryOp .USub a pos) (mUn oNeg ma) := by
  obtain ⟨ta, pa, sa⟩ := ha
  exact ⟨_, pe_un un_neg pa, sim_un sim_neg sa⟩
def oNot : O1
  | .d (.bl b), st => .ok (.d (.bl (!b))) st
  | _, _ => .bad
theorem de_not {a : Expr} {pos : Pos} {ma : ME} (ha : DE G W X a ma) : DE G W X (.UnaryOp .Not a pos) (mUn oNot ma) := by
  obtain ⟨ta, pa, sa⟩ := ha
  refine ⟨_, pe_not pa, ?_⟩
  intro σ ρ H F ad st Q R S h
  refine sa σ ρ H F ad st _ R S ?_
  have h1 := Po.bind h
  revert h1
  generalize ma ρ st = ra
  intro h1
  cases ra with
  | bad => exact h1
  | er c fs st1 => exact h1
  | ok x st1 =>
    intro H1 F1 ad1 e1 S1 v rv
    have h2 := h1 H1 F1 ad1 e1 S1
    cases x with
    | ref n => exact h2.elim
    | d x => cases x with
      | bl b => cases rv; exact ⟨b, rfl, fin_same S1 h2 _ (.bl _)⟩
      | _ => exact h2.elim
/-! and, or, not, as values and as tests -/
def mAnd (a b : ME) : ME := fun ρ st => (a ρ st).bind fun x st => match x with
  | .d (.bl true) => b ρ st
  | .d (.bl false) => .ok (.d (.bl false)) st
  | _ => .bad
def mOr (a b : ME) : ME := fun ρ st => (a ρ st).bind fun x st => match x with
  | .d (.bl true) => .ok (.d (.bl true)) st
  | .d (.bl false) => b ρ st
  | _ => .bad
def mAndT (a b : MT) : MT := fun ρ st => (a ρ st).bind fun x st => if x then b ρ st else .ok false st
def mOrT (a b : MT) : MT := fun ρ st => (a ρ st).bind fun x st => if x then .ok true st else b ρ st
def mNotT (a : MT) : MT := fun ρ st => (a ρ st).bind fun x st => .ok (!x) st
def mIf (t : MT) (a b : ME) : ME := fun ρ st => (t ρ st).bind fun x st => if x then a ρ st else b ρ st
theorem simT_bind {tt : TT} {mt : MT} {β : Type} {P : β → Sto → Hp → Hp → List Addr → Prop} (ht : SimT G W tt mt) {k : Bool → Sto → Res β} {σ : L2.St} {ρ : Ev} {H F : Hp} {ad : List Addr} {st : Sto} {Q : Bool → Hp → Prop} (R : RelE G F ad σ ρ) (S : SR G H F ad st)
    (h : Po G (fun c d H' => W c d σ H') H F ad P ((mt ρ st).bind k)) (q : ∀ b st1 H1 F1 ad1, RelE G F1 ad1 σ ρ → SR G H1 F1 ad1 st1 → Po G (fun c d H' => W c d σ H') H1 F1 ad1 P (k b st1) → Q b H1) : tt σ H Q := by
  refine ht σ ρ H F ad st _ R S ?_
  have h1 := Po.bind h
  revert h1
  generalize mt ρ st = ra
  intro h1
  cases ra with
  | bad => exact h1
  | er c fs st1 => exact h1
  | ok x st1 => exact fun H1 F1 ad1 e1 S1 => q x st1 H1 F1 ad1 (R.ext e1) S1 (h1 H1 F1 ad1 e1 S1)
theorem simE_bind {tt : TE} {mt : ME} {β : Type} {P : β → Sto → Hp → Hp → List Addr → Prop} (ht : SimE G W tt mt) {k : Va → Sto → Res β} {σ : L2.St} {ρ : Ev} {H F : Hp} {ad : List Addr} {st : Sto} {Q : VK} (R : RelE G F ad σ ρ) (S : SR G H F ad st)
    (h : Po G (fun c d H' => W c d σ H') H F ad P ((mt ρ st).bind k)) (q : ∀ x v st1 H1 F1 ad1, Ext H F ad H1 F1 ad1 → RelE G F1 ad1 σ ρ → SR G H1 F1 ad1 st1 → RepV G F1 ad1 v x → Po G (fun c d H' => W c d σ H') H1 F1 ad1 P (k x st1) → Q v H1) : tt σ H Q := by
  refine ht σ ρ H F ad st _ R S ?_
  have h1 := Po.bind h
  revert h1
  generalize mt ρ st = ra
  intro h1
  cases ra with
  | bad => exact h1
  | er c fs st1 => exact h1
  | ok x st1 => exact fun H1 F1 ad1 e1 S1 v rv => q x v st1 H1 F1 ad1 e1 (R.ext e1) S1 rv (h1 H1 F1 ad1 e1 S1)
theorem simA_bind {tt : TA} {mt : MA} {β : Type} {P : β → Sto → Hp → Hp → List Addr → Prop} (ht : SimA G W tt mt) {k : List Va → Sto → Res β} {σ : L2.St} {ρ : Ev} {H F : Hp} {ad : List Addr} {st : Sto} {Q : List V → Hp → Prop} (R : RelE G F ad σ ρ) (S : SR G H F ad st)
    (h : Po G (fun c d H' => W c d σ H') H F ad P ((mt ρ st).bind k)) (q : ∀ x v st1 H1 F1 ad1, Ext H F ad H1 F1 ad1 → RelE G F1 ad1 σ ρ → SR G H1 F1 ad1 st1 → RepVs G F1 ad1 v x → Po G (fun c d H' => W c d σ H') H1 F1 ad1 P (k x st1) → Q v H1) : tt σ H Q := by
  refine ht σ ρ H F ad st _ R S ?_
  have h1 := Po.bind h
  revert h1
  generalize mt ρ st = ra
  intro h1
  cases ra with
  | bad => exact h1
  | er c fs st1 => exact h1
  | ok x st1 => exact fun H1 F1 ad1 e1 S1 v rv => q x v st1 H1 F1 ad1 e1 (R.ext e1) S1 rv (h1 H1 F1 ad1 e1 S1)
theorem sim_and {ta tb : TE} {ma mb : ME} (ha : SimE G W ta ma) (hb : SimE G W tb mb) : SimE G W (tAndV ta tb) (mAnd ma mb) := by
  intro σ ρ H F ad st Q R S h
  refine simE_bind ha R S h fun x v st1 H1 F1 ad1 _ R1 S1 rv h1 => ?_
  cases x with
  | ref n => exact h1.elim
  | d x => cases x with
    | bl b =>
      cases rv
      refine ⟨b, rfl, ?_⟩
      cases b with
      | true => rw [if_pos rfl]; exact hb σ ρ H1 F1 ad1 st1 Q R1 S1 h1
      | false => rw [if_neg Bool.false_ne_true]; exact fin_same S1 h1 _ (.bl _)
    | _ => exact h1.elim
theorem sim_or {ta tb : TE} {ma mb : ME} (ha : SimE G W ta ma) (hb : SimE G W tb mb) : SimE G W (tOrV ta tb) (mOr ma mb) := by
  intro σ ρ H F ad st Q R S h
  refine simE_bind ha R S h fun x v st1 H1 F1 ad1 _ R1 S1 rv h1 => ?_
  cases x with
  | ref n => exact h1.elim
  | d x => cases x with
    | bl b =>
      cases rv
      refine ⟨b, rfl, ?_⟩
      cases b with
      | true => rw [if_pos rfl]; exact fin_same S1 h1 _ (.bl _)
      | false => rw [if_neg Bool.false_ne_true]; exact hb σ ρ H1 F1 ad1 st1 Q R1 S1 h1
    | _ => exact h1.elim
theorem sim_andT {ta tb : TT} {ma mb : MT} (ha : SimT G W ta ma) (hb : SimT G W tb mb) : SimT G W (tAnd ta tb) (mAndT ma mb) := by
  intro σ ρ H F ad st Q R S h
  refine simT_bind ha R S h fun b st1 H1 F1 ad1 R1 S1 h1 => ?_
  cases b with
  | true => rw [if_pos rfl] at h1 ⊢; exact hb σ ρ H1 F1 ad1 st1 Q R1 S1 h1
  | false => rw [if_neg Bool.false_ne_true] at h1 ⊢; exact fin_same S1 h1
theorem sim_orT {ta tb : TT} {ma mb : MT} (ha : SimT G W ta ma) (hb : SimT G W tb mb) : SimT G W (tOr ta tb) (mOrT ma mb) := by
  intro σ ρ H F ad st Q R S h
  refine simT_bind ha R S h fun b st1 H1 F1 ad1 R1 S1 h1 => ?_
  cases b with
  | true => rw [if_pos rfl] at h1 ⊢; exact fin_same S1 h1
  | false => rw [if_neg Bool.false_ne_true] at h1 ⊢; exact hb σ ρ H1 F1 ad1 st1 Q R1 S1 h1
theorem sim_notT {ta : TT} {ma : MT} (ha : SimT G W ta ma) : SimT G W (tNot ta) (mNotT ma) := by
  intro σ ρ H F ad st Q R S h
  exact simT_bind ha R S h fun b st1 H1 F1 ad1 R1 S1 h1 => fin_same S1 h1
theorem sim_if {tt : TT} {ta tb : TE} {mt : MT} {ma mb : ME} (ht : SimT G W tt mt) (ha : SimE G W ta ma) (hb : SimE G W tb mb) : SimE G W (tIf tt ta tb) (mIf mt ma mb) := by
  intro σ ρ H F ad st Q R S h
  refine simT_bind ht R S h fun b st1 H1 F1 ad1 R1 S1 h1 => ?_
  cases b with
  | true => rw [if_pos rfl] at h1 ⊢; exact ha σ ρ H1 F1 ad1 st1 Q R1 S1 h1
  | false => rw [if_neg Bool.false_ne_true] at h1 ⊢; exact hb σ ρ H1 F1 ad1 st1 Q R1 S1 h1
end

section
variable {G : Ga} {W : L2.WX} {X : Cx}
theorem de_and {a b : Expr} {rest : List Expr} {pos : Pos} {ma mb : ME} (ha : DE G W X a ma) (hb : DE G W X (.BoolOp .And (b :: rest) pos) mb) : DE G W X (.BoolOp .And (a :: b :: rest) pos) (mAnd ma mb) := by
  obtain ⟨ta, pa, sa⟩ := ha
  obtain ⟨tb, pb, sb⟩ := hb
  exact ⟨_, pe_and pa pb, sim_and sa sb⟩
theorem de_or {a b : Expr} {rest : List Expr} {pos : Pos} {ma mb : ME} (ha : DE G W X a ma) (hb : DE G W X (.BoolOp .Or (b :: rest) pos) mb) : DE G W X (.BoolOp .Or (a :: b :: rest) pos) (mOr ma mb) := by
  obtain ⟨ta, pa, sa⟩ := ha
  obtain ⟨tb, pb, sb⟩ := hb
  exact ⟨_, pe_or pa pb, sim_or sa sb⟩
theorem de_one {op} {a : Expr} {pos : Pos} {ma : ME} (ha : DE G W X a ma) : DE G W X (.BoolOp op [a] pos) ma := by
  obtain ⟨ta, pa, sa⟩ := ha
  exact ⟨_, pe_one pa, sa⟩
def DW (G : Ga) (W : L2.WX) (X : Cx) (e : Expr) (m : MT) : Prop := ∃ t, PW X e t ∧ SimT G W t m
theorem DW.dt {e : Expr} {m : MT} (h : DW G W X e m) : DT G W X e m := by
  obtain ⟨t, p, s⟩ := h
  exact ⟨t, p.pt, s⟩
theorem dw_and1 {a : Expr} {pos : Pos} {ma : MT} (ha : DT G W X a ma) : DW G W X (.BoolOp .And [a] pos) ma := by
  obtain ⟨t, p, s⟩ := ha
  exact ⟨_, pw_and1 p, s⟩
theorem dw_or1 {a : Expr} {pos : Pos} {ma : MT} (ha : DT G W X a ma) : DW G W X (.BoolOp .Or [a] pos) ma := by
  obtain ⟨t, p, s⟩ := ha
  exact ⟨_, pw_or1 p, s⟩
theorem dw_and {a b : Expr} {rest : List Expr} {pos : Pos} {ma mb : MT} (ha : DT G W X a ma) (hb : DW G W X (.BoolOp .And (b :: rest) pos) mb) : DW G W X (.BoolOp .And (a :: b :: rest) pos) (mAndT ma mb) := by
  obtain ⟨ta, pa, sa⟩ := ha
  obtain ⟨tb, pb, sb⟩ := hb
  exact ⟨_, pw_and pa pb, sim_andT sa sb⟩
theorem dw_or {a b : Expr} {rest : List Expr} {pos : Pos} {ma mb : MT} (ha : DT G W X a ma) (hb : DW G W X (.BoolOp .Or (b :: rest) pos) mb) : DW G W X (.BoolOp .Or (a :: b :: rest) pos) (mOrT ma mb) := by
  obtain ⟨ta, pa, sa⟩ := ha
  obtain ⟨tb, pb, sb⟩ := hb
  exact ⟨_, pw_or pa pb, sim_orT sa sb⟩
theorem dt_not {a : Expr} {pos : Pos} {ma : MT} (ha : DT G W X a ma) : DT G W X (.UnaryOp .Not a pos) (mNotT ma) := by
  obtain ⟨t, p, s⟩ := ha
  exact ⟨_, pt_not p, sim_notT s⟩
theorem de_if {c a b : Expr} {pos : Pos} {mt : MT} {ma mb : ME} (hc : DT G W X c mt) (ha : DE G W X a ma) (hb : DE G W X b mb) : DE G W X (.IfExp c a b pos) (mIf mt ma mb) := by
  obtain ⟨tc, pc, sc⟩ := hc
  obtain ⟨ta, pa, sa⟩ := ha
  obtain ⟨tb, pb, sb⟩ := hb
  exact ⟨_, pe_ifExp pc pa pb, sim_if sc sa sb⟩
/-! truth of any value -/
def truV : Va → Sto → Option Bool
  | .d .non, _ => some false
  | .d (.bl b), _ => some b
  | .d (.int i), _ => some (i != 0)
  | .d (.str x), _ => if x.length ≤ cap then some ((x.length : Int) != 0) else none
  | .d (.lst xs), _ => some (!xs.isEmpty)
  | .d (.tup xs), _ => some (!xs.isEmpty)
  | .ref n, st => match st[n]? with
    | some (.lst xs) => some (!xs.isEmpty)
    | _ => none
  | _, _ => none
def mTru (a : ME) : MT := fun ρ st => (a ρ st).bind fun x st => match truV x st with
  | some b => .ok b st
  | none => .bad
theorem Paired.isEmpty {α β : Type} {R : α → β → Prop} {xs : List α} {ys : List β} (h : Paired R xs ys) : xs.isEmpty = ys.isEmpty := by cases h <;> rfl
theorem Reps.isEmpty {F : Hp} {vs : List V} {ds : List D} (h : Reps G F vs ds) : vs.isEmpty = ds.isEmpty := by cases h <;> rfl
theorem truV_ok {H F : Hp} {ad : List Addr} {st : Sto} {v : V} {x : Va} {b : Bool} (S : SR G H F ad st) (r : RepV G F ad v x) (e : truV x st = some b) : TruV G.K v H b := by
  cases x with
  | ref n =>
    obtain ⟨a, ha, rfl⟩ := r
    have e : (match st[n]? with
      | some (.lst xs) => some (!xs.isEmpty)
      | _ => none) = some b := e
    cases z : st[n]? with
    | none => rw [z] at e; cases e
    | some o =>
      rw [z] at e
      cases o with
      | lst xs =>
        obtain ⟨vs, h1, h2⟩ := S.get ha z
        cases e
        exact .inl ⟨vs, SqL.of h1, by rw [Paired.isEmpty h2]⟩
      | _ => cases e
  | d x =>
    cases r with
    | non => cases e; rfl
    | bl b => cases e; rfl
    | int i => cases e; rfl
    | str x =>
      have e : (if x.length ≤ cap then some ((x.length : Int) != 0) else none) = some b := e
      split at e
      · rename_i hc
        cases e
        exact ⟨cap_ok hc, rfl⟩
      · cases e
    | lst h t => cases e; exact .inl ⟨_, SqL.of (S.sub _ _ h), by rw [t.isEmpty]⟩
    | tup h t => cases e; exact .inr (.inl ⟨_, sqT_same S.sub h, by rw [t.isEmpty]⟩)
    | obj _ h t => cases e
    | cls c _ => cases e
    | ty n => cases e
    | lck h => cases e
    | idn h => cases e
theorem dt_tru {a : Expr} {ma : ME} (hK : X.K = G.K) (ha : DE G W X a ma) (he : ∀ whole, isTrue a X.env whole = (do let v ← whole; standAt a.pos; holding [v] (truthy v)) := by intro _; rfl) : DT G W X a (mTru ma) := by
  obtain ⟨ta, pa, sa⟩ := ha
  refine ⟨_, pt_truth pa he, ?_⟩
  intro σ ρ H F ad st Q R S h
  refine simE_bind sa R S h fun x v st1 H1 F1 ad1 _ R1 S1 rv h1 => ?_
  cases z : truV x st1 with
  | none => rw [z] at h1; exact h1.elim
  | some b =>
    rw [z] at h1
    refine ⟨b, ?_, fin_same S1 h1⟩
    rw [hK]
    exact truV_ok S1 rv z
/-! arguments -/
def mNil : MA := fun _ st => .ok [] st
def mCons (a : ME) (r : MA) : MA := fun ρ st => (a ρ st).bind fun x st => (r ρ st).bind fun xs st => .ok (x :: xs) st
theorem da_nil : DA G W X [] mNil := ⟨_, pa_nil, fun σ ρ H F ad st Q R S h => fin_same S h _ .nil⟩
theorem da_cons {e : Expr} {es : List Expr} {me : ME} {m : MA} (ha : DE G W X e me) (hr : DA G W X es m) (hs : starEach (e :: es) X.env = (false, eval e X.env) :: starEach es X.env := by rfl) : DA G W X (e :: es) (mCons me m) := by
  obtain ⟨te, pe, se⟩ := ha
  obtain ⟨tr, pr, sr⟩ := hr
  refine ⟨_, pa_cons pe pr hs, ?_⟩
  intro σ ρ H F ad st Q R S h
  refine simE_bind se R S h fun x v st1 H1 F1 ad1 _ R1 S1 rv h1 => ?_
  refine simA_bind sr R1 S1 h1 fun xs vs st2 H2 F2 ad2 e2 R2 S2 rvs h2 => ?_
  exact fin_same S2 h2 _ (.cons (rv.ext e2) rvs)
/-- *e -/
def itemsOf : Va → Sto → Option (List Va)
  | .d (.lst xs), _ => some (xs.map Va.d)
  | .d (.tup xs), _ => some (xs.map Va.d)
  | .ref n, st => match st[n]? with
    | some (.lst xs) => some xs
    | _ => none
  | _, _ => none
theorem itemsOf_ok {H F : Hp} {ad : List Addr} {st : Sto} {v : V} {x : Va} {ds : List Va} (S : SR G H F ad st) (r : RepV G F ad v x) (e : itemsOf x st = some ds) : ∃ a vs, v = .ref a ∧ (SqL G.K H a vs ∨ SqT G.K H a vs) ∧ RepVs G F ad vs ds := by
  cases x with
  | ref n =>
    obtain ⟨a, ha, rfl⟩ := r
    have e : (match st[n]? with
      | some (.lst xs) => some xs
      | _ => none) = some ds := e
    cases z : st[n]? with
    | none => rw [z] at e; cases e
    | some o =>
      rw [z] at e
      cases o with
      | lst xs =>
        obtain ⟨vs, h1, h2⟩ := S.get ha z
        cases e
        exact ⟨a, vs, rfl, .inl (SqL.of h1), h2⟩
      | _ => cases e
  | d x =>
    cases r with
    | lst h t => cases e; exact ⟨_, _, rfl, .inl (SqL.of (S.sub _ _ h)), t.va⟩
    | tup h t => cases e; exact ⟨_, _, rfl, .inr (sqT_same S.sub h), t.va⟩
    | _ => cases e
def mStar (a : ME) (r : MA) : MA := fun ρ st => (a ρ st).bind fun x st => match itemsOf x st with
  | some xs => (r ρ st).bind fun ys st => .ok (xs ++ ys) st
  | none => .bad
theorem Paired.append {α β : Type} {R : α → β → Prop} : ∀ {xs xs2 : List α} {ys ys2 : List β}, Paired R xs ys → Paired R xs2 ys2 → Paired R (xs ++ xs2) (ys ++ ys2)
  | _, _, _, _, .nil, b => b
  | _, _, _, _, .cons h t, b => .cons h (Paired.append t b)
theorem da_star {e : Expr} {es : List Expr} {p : Pos} {me : ME} {m : MA} (hK : X.K = G.K) (ha : DE G W X e me) (hr : DA G W X es m) (hs : starEach (.Starred e p :: es) X.env = (true, eval e X.env) :: starEach es X.env := by rfl) : DA G W X (.Starred e p :: es) (mStar me m) := by
  obtain ⟨te, pe, se⟩ := ha
  obtain ⟨tr, pr, sr⟩ := hr
  refine ⟨_, StX.pa_star pe pr hs, ?_⟩
  intro σ ρ H F ad st Q R S h
  refine simE_bind se R S h fun x v st1 H1 F1 ad1 _ R1 S1 rv h1 => ?_
  cases z : itemsOf x st1 with
  | none => rw [z] at h1; exact h1.elim
  | some xs =>
    rw [z] at h1
    obtain ⟨a, ws, rfl, hq, rw⟩ := itemsOf_ok S1 rv z
    refine ⟨a, ws, rfl, by rw [hK]; exact hq.symm, ?_⟩
    refine simA_bind sr R1 S1 h1 fun ys vs st2 H2 F2 ad2 e2 R2 S2 rvs h2 => ?_
    exact fin_same S2 h2 _ (Paired.append (RepVs.ext e2 rw) rvs)
/-! displays -/
def ds? : List Va → Option (List D)
  | [] => some []
  | .d x :: r => (ds? r).map (x :: ·)
  | .ref _ :: _ => none
@[simp] theorem ds?_map : ∀ xs : List D, ds? (xs.map Va.d) = some xs
  | [] => rfl
  | x :: xs => by
    show (ds? (xs.map Va.d)).map (x :: ·) = _
    rw [ds?_map xs]
    rfl
theorem ds?_ok : ∀ {xs : List Va} {ds : List D}, ds? xs = some ds → xs = ds.map Va.d
  | [], ds, h => by cases h; rfl
  | .d x :: r, ds, h => by
    have h : (ds? r).map (x :: ·) = some ds := h
    cases z : ds? r with
    | none => rw [z] at h; cases h
    | some es =>
      rw [z] at h
      cases h
      rw [ds?_ok z]
      rfl
  | .ref _ :: _, ds, h => by cases h
theorem repVs_ds {F : Hp} {ad : List Addr} {vs : List V} {xs : List Va} {ds : List D} (h : RepVs G F ad vs xs) (e : ds? xs = some ds) : Reps G F vs ds := by
  rw [ds?_ok e] at h
  exact Reps.of h
theorem ds?_len {xs : List Va} {ds : List D} (h : ds? xs = some ds) : xs.length = ds.length := by rw [ds?_ok h, List.length_map]
def mLst (m : MA) : ME := fun ρ st => (m ρ st).bind fun xs st => match ds? xs with
  | some ds => if ds.length ≤ cap then .ok (.d (.lst ds)) st else .bad
  | none => .bad
def mTup (m : MA) : ME := fun ρ st => (m ρ st).bind fun xs st => match ds? xs with
  | some ds => if ds.length ≤ cap then .ok (.d (.tup ds)) st else .bad
  | none => .bad
/-- a list that may change -/
def mLstC (m : MA) : ME := fun ρ st => (m ρ st).bind fun xs st => if xs.length ≤ cap then .ok (.ref st.length) (st ++ [.lst xs]) else .bad
theorem fin_cell {Wv : Value → Option Addr → Hp → Prop} {H F : Hp} {ad : List Addr} {st : Sto} {o : HO} {m : MO} {p : Addr} {Q : VK} (S : SR G H F ad st) (hp : H p = none) (hm : ObjR G F (ad ++ [p]) (upd H p o) p m) (h : Po G Wv H F ad (QV G Q) (.ok (.ref st.length) (st ++ [m]))) : Q (.ref p) (upd H p o) :=
  h _ _ _ (ext_cell S hp) (S.cell hp hm) _ ⟨p, by rw [← S.len]; simp, rfl⟩
theorem de_lst {es : List Expr} {pos : Pos} {m : MA} (h : DA G W X es m) : DE G W X (.List es pos) (mLst m) := by
  obtain ⟨t, p, s⟩ := h
  refine ⟨_, pe_lst p, ?_⟩
  intro σ ρ H F ad st Q R S h
  refine simA_bind s R S h fun xs vs st1 H1 F1 ad1 _ R1 S1 rvs h1 => ?_
  cases z : ds? xs with
  | none => rw [z] at h1; exact h1.elim
  | some ds =>
    rw [z] at h1
    have h1 : Po G _ H1 F1 ad1 (QV G Q) (if ds.length ≤ cap then .ok (.d (.lst ds)) st1 else .bad) := h1
    split at h1
    · rename_i hc
      refine ⟨by rw [Paired.length rvs, ds?_len z]; exact cap_ok hc, fun q hq => ?_⟩
      exact fin_new S1 hq (.lst upd_same ((repVs_ds rvs z).same (ext_new S1 hq).fz)) h1
    · exact h1.elim
theorem de_tup {es : List Expr} {x1} {pos : Pos} {m : MA} (h : DA G W X es m) : DE G W X (.Tuple es x1 pos) (mTup m) := by
  obtain ⟨t, p, s⟩ := h
  refine ⟨_, pe_tup p, ?_⟩
  intro σ ρ H F ad st Q R S h
  refine simA_bind s R S h fun xs vs st1 H1 F1 ad1 _ R1 S1 rvs h1 => ?_
  cases z : ds? xs with
  | none => rw [z] at h1; exact h1.elim
  | some ds =>
    rw [z] at h1
    have h1 : Po G _ H1 F1 ad1 (QV G Q) (if ds.length ≤ cap then .ok (.d (.tup ds)) st1 else .bad) := h1
    split at h1
    · rename_i hc
      refine ⟨by rw [Paired.length rvs, ds?_len z]; exact cap_ok hc, fun q hq => ?_⟩
      exact fin_new S1 hq (.tup (SqT.of upd_same) ((repVs_ds rvs z).same (ext_new S1 hq).fz)) h1
    · exact h1.elim
theorem de_lstC {es : List Expr} {pos : Pos} {m : MA} (h : DA G W X es m) : DE G W X (.List es pos) (mLstC m) := by
  obtain ⟨t, p, s⟩ := h
  refine ⟨_, pe_lst p, ?_⟩
  intro σ ρ H F ad st Q R S h
  refine simA_bind s R S h fun xs vs st1 H1 F1 ad1 _ R1 S1 rvs h1 => ?_
  have h1 : Po G _ H1 F1 ad1 (QV G Q) (if xs.length ≤ cap then .ok (.ref st1.length) (st1 ++ [.lst xs]) else .bad) := h1
  split at h1
  · rename_i hc
    refine ⟨by rw [Paired.length rvs]; exact cap_ok hc, fun q hq => ?_⟩
    exact fin_cell (m := .lst xs) S1 hq ⟨vs, upd_same, RepVs.ext (ext_cell S1 (o := .lst vs) hq) rvs⟩ h1
  · exact h1.elim
/-! items -/
def oIx : O2
  | .d (.lst xs), .d (.int i), st => match atI xs i with
    | some x => .ok (.d x) st
    | none => .bad
  | .d (.tup xs), .d (.int i), st => match atI xs i with
    | some x => .ok (.d x) st
    | none => .bad
  | .d (.lck xs), .d (.int i), st => match atI xs i with
    | some x => .ok (.d (.int x)) st
    | none => .bad
  | .d (.str z), .d (.int i), st => if z.length ≤ cap then (match atI z.cps.toList i with
    | some c => .ok (.d (.str ⟨#[c]⟩)) st
    | none => .bad) else .bad
  | .ref n, .d (.int i), st => match st[n]? with
    | some (.lst xs) => (match atI xs i with
      | some x => .ok x st
      | none => .bad)
    | _ => .bad
  | _, _, _ => .bad
theorem atI_rel {α β : Type} {R : α → β → Prop} {xs : List α} {ys : List β} (hl : xs.length = ys.length) (hg : ∀ (i : Nat) y, ys[i]? = some y → ∃ x, xs[i]? = some x ∧ R x y) {i : Int} {y : β} (h : atI ys i = some y) : ∃ x, atI xs i = some x ∧ R x y := by
  unfold atI at h ⊢
  rw [hl]
  cases z : ixN ys.length i with
  | none => rw [z] at h; cases h
  | some j =>
    rw [z] at h
    exact hg j y h
theorem Paired.getR {α β : Type} {R : α → β → Prop} : ∀ {xs : List α} {ys : List β}, Paired R xs ys → ∀ (i : Nat) y, ys[i]? = some y → ∃ x, xs[i]? = some x ∧ R x y
  | _, _, .nil, _, _, e => by simp at e
  | _, _, .cons h _, 0, _, e => by simp at e; subst e; exact ⟨_, rfl, h⟩
  | _, _, .cons _ t, i + 1, y, e => by
    obtain ⟨v, h1, h2⟩ := Paired.getR t i y (by simpa using e)
    exact ⟨v, by simpa using h1, h2⟩
theorem sim_ix : SimR2 G (rIx G.K) oIx := by
  intro Wv x y dx dy H F ad st Q rx ry S h
  cases dy with
  | ref n =>
    cases dx with
    | ref m => exact h.elim
    | d dx => cases dx <;> exact h.elim
  | d dy =>
    cases dy with
    | int i =>
      cases ry
      cases dx with
      | ref n =>
        obtain ⟨a, ha, rfl⟩ := rx
        have h : Po G Wv H F ad (QV G Q) (match st[n]? with
          | some (.lst xs) => (match atI xs i with
            | some x => .ok x st
            | none => .bad)
          | _ => .bad) := h
        cases z : st[n]? with
        | none => rw [z] at h; exact h.elim
        | some o =>
          rw [z] at h
          cases o with
          | lst xs =>
            obtain ⟨vs, h1, h2⟩ := S.get ha z
            cases e : atI xs i with
            | none =>
              have h : Po G Wv H F ad (QV G Q) (match atI xs i with
                | some x => .ok x st
                | none => .bad) := h
              rw [e] at h; exact h.elim
            | some d =>
              have h : Po G Wv H F ad (QV G Q) (match atI xs i with
                | some x => .ok x st
                | none => .bad) := h
              rw [e] at h
              obtain ⟨v, h3, h4⟩ := atI_rel (Paired.length h2) (Paired.getR h2) e
              exact .inl ⟨a, vs, i, v, rfl, rfl, SqL.of h1, h3, fin_same S h _ h4⟩
          | _ => exact h.elim
      | d dx =>
        cases dx with
        | lst xs =>
          have h : Po G Wv H F ad (QV G Q) (match atI xs i with
            | some x => .ok (.d x) st
            | none => .bad) := h
          cases rx with
          | @lst a vs _ h1 t1 =>
            cases e : atI xs i with
            | none => rw [e] at h; exact h.elim
            | some d =>
              rw [e] at h
              obtain ⟨v, h3, h4⟩ := atI_rel (R := fun v d => Rep G F v d) t1.length (fun j y z => t1.get z) e
              exact .inl ⟨a, vs, i, v, rfl, rfl, SqL.of (S.sub _ _ h1), h3, fin_same S h _ h4⟩
        | tup xs =>
          have h : Po G Wv H F ad (QV G Q) (match atI xs i with
            | some x => .ok (.d x) st
            | none => .bad) := h
          cases rx with
          | @tup a vs _ h1 t1 =>
            cases e : atI xs i with
            | none => rw [e] at h; exact h.elim
            | some d =>
              rw [e] at h
              obtain ⟨v, h3, h4⟩ := atI_rel (R := fun v d => Rep G F v d) t1.length (fun j y z => t1.get z) e
              exact .inr (.inl ⟨a, vs, i, v, rfl, rfl, sqT_same S.sub h1, h3, fin_same S h _ h4⟩)
        | lck xs =>
          have h : Po G Wv H F ad (QV G Q) (match atI xs i with
            | some x => .ok (.d (.int x)) st
            | none => .bad) := h
          cases rx with
          | @lck a _ h1 =>
            cases e : atI xs i with
            | none => rw [e] at h; exact h.elim
            | some d =>
              rw [e] at h
              obtain ⟨v, h3, h4⟩ := atI_rel (xs := xs.map V.int) (ys := xs) (R := fun v d => v = V.int d) (List.length_map _) (fun j y z => ⟨.int y, by rw [List.getElem?_map, z]; rfl, rfl⟩) e
              subst h4
              exact .inl ⟨a, _, i, _, rfl, rfl, S.sub.seq h1, h3, fin_same S h _ (.int d)⟩
        | str z =>
          cases rx
          have h : Po G Wv H F ad (QV G Q) (if z.length ≤ cap then (match atI z.cps.toList i with
            | some c => .ok (.d (.str ⟨#[c]⟩)) st
            | none => .bad) else .bad) := h
          split at h
          · rename_i hc
            cases e : atI z.cps.toList i with
            | none => rw [e] at h; exact h.elim
            | some c =>
              rw [e] at h
              exact .inr (.inr ⟨z, i, c, rfl, rfl, cap_ok hc, e, fin_same S h _ (.str _)⟩)
          · exact h.elim
        | _ => exact h.elim
    | _ =>
      cases dx with
      | ref m => exact h.elim
      | d dx => cases dx <;> exact h.elim
theorem de_ix {a b : Expr} {pos : Pos} {ma mb : ME} (hK : X.K = G.K) (ha : DE G W X a ma) (hb : DE G W X b mb) (hs : PlainIx b) : DE G W X (.Subscript a b pos) (mBin oIx ma mb) := by
  obtain ⟨ta, pa, sa⟩ := ha
  obtain ⟨tb, pb, sb⟩ := hb
  refine ⟨_, pe_ix (r := rIx G.K) (by rw [← hK]; exact ix_seq) pa pb hs, sim_op sim_ix sa sb⟩
/-! slices -/
def cutA {α : Type} (xs : List α) (lo hi : Option Int) : List α := (xs.drop (HT.sIx xs.length 0 lo)).take (HT.sIx xs.length xs.length hi - HT.sIx xs.length 0 lo)
abbrev MO' := Ev → Sto → Res (Option Int)
def SimO (G : Ga) (W : L2.WX) (t : TO) (m : MO') : Prop := ∀ (σ : L2.St) (ρ : Ev) (H F : Hp) (ad : List Addr) (st : Sto) (Q : Option Int → Hp → Prop), RelE G F ad σ ρ → SR G H F ad st →
  Po G (fun c d H' => W c d σ H') H F ad (fun b _ H' _ _ => Q b H') (m ρ st) → t σ H Q
def DO (G : Ga) (W : L2.WX) (X : Cx) (e : Option Expr) (m : MO') : Prop := ∃ t, PO X e t ∧ SimO G W t m
def mNo : MO' := fun _ st => .ok none st
def mPart (a : ME) : MO' := fun ρ st => (a ρ st).bind fun x st => match x with
  | .d (.int i) => .ok (some i) st
  | _ => .bad
theorem do_none : DO G W X none mNo := ⟨_, po_none, fun σ ρ H F ad st Q R S h => fin_same S h⟩
theorem do_some {e : Expr} {m : ME} (h : DE G W X e m) : DO G W X (some e) (mPart m) := by
  obtain ⟨t, p, s⟩ := h
  refine ⟨_, po_some p, ?_⟩
  intro σ ρ H F ad st Q R S h
  refine simE_bind s R S h fun x v st1 H1 F1 ad1 _ R1 S1 rv h1 => ?_
  cases x with
  | ref n => exact h1.elim
  | d x => cases x with
    | int i => cases rv; exact ⟨i, rfl, fin_same S1 h1⟩
    | _ => exact h1.elim
def oSl (x : Va) (lo hi : Option Int) (st : Sto) : Res Va := match x with
  | .d (.lst xs) => .ok (.d (.lst (cutA xs lo hi))) st
  | .d (.tup xs) => .ok (.d (.tup (cutA xs lo hi))) st
  | .ref n => match st[n]? with
    | some (.lst xs) => (match ds? (cutA xs lo hi) with
      | some ds => .ok (.d (.lst ds)) st
      | none => .bad)
    | _ => .bad
  | _ => .bad
def mSl (a : ME) (lo hi : MO') : ME := fun ρ st => (a ρ st).bind fun x st => (lo ρ st).bind fun l st => (hi ρ st).bind fun h st => oSl x l h st
def rSls (K : PySem.W.Frag) : V → Option Int → Option Int → Hp → VK → Prop := fun x lo hi H Q => rSlL K x lo hi H Q ∨ rSlA K x lo hi H Q
theorem Reps.cut {F : Hp} {vs : List V} {ds : List D} (h : Reps G F vs ds) (lo hi : Option Int) : Reps G F (cutV vs lo hi) (cutA ds lo hi) := by
  have hd : ∀ {vs : List V} {ds : List D} (n : Nat), Reps G F vs ds → Reps G F (vs.drop n) (ds.drop n) := by
    intro vs ds n h
    induction n generalizing vs ds with
    | zero => exact h
    | succ n ih => cases h with
      | nil => exact .nil
      | cons _ t => exact ih t
  have ht : ∀ {vs : List V} {ds : List D} (n : Nat), Reps G F vs ds → Reps G F (vs.take n) (ds.take n) := by
    intro vs ds n h
    induction n generalizing vs ds with
    | zero => exact .nil
    | succ n ih => cases h with
      | nil => exact .nil
      | cons h t => exact .cons h (ih t)
  unfold cutV cutA
  rw [h.length]
  exact ht _ (hd _ h)
theorem Paired.drop {α β : Type} {R : α → β → Prop} {xs : List α} {ys : List β} (n : Nat) (h : Paired R xs ys) : Paired R (xs.drop n) (ys.drop n) := by
  induction n generalizing xs ys with
  | zero => exact h
  | succ n ih => cases h with
    | nil => exact .nil
    | cons _ t => exact ih t
theorem Paired.take {α β : Type} {R : α → β → Prop} {xs : List α} {ys : List β} (n : Nat) (h : Paired R xs ys) : Paired R (xs.take n) (ys.take n) := by
  induction n generalizing xs ys with
  | zero => exact .nil
  | succ n ih => cases h with
    | nil => exact .nil
    | cons h t => exact .cons h (ih t)
theorem cut_whole {α : Type} {xs : List α} {lo hi : Option Int} (h : HT.sIx xs.length 0 lo = 0 ∧ HT.sIx xs.length xs.length hi = xs.length) : cutA xs lo hi = xs := by
  unfold cutA
  rw [h.1, h.2]
  simp
theorem de_sl {e : Expr} {lo hi : Option Expr} {p2 pos : Pos} {m : ME} {ml mh : MO'} (hK : X.K = G.K) (he : DE G W X e m) (hl : DO G W X lo ml) (hh : DO G W X hi mh) : DE G W X (.Subscript e (.Slice lo hi none p2) pos) (mSl m ml mh) := by
  obtain ⟨te, pe, se⟩ := he
  obtain ⟨tl, pl, sl⟩ := hl
  obtain ⟨th, ph, sh⟩ := hh
  refine ⟨_, pe_slice (r := rSls G.K) (by rw [← hK]; exact sl_list.or sl_tupA) pe pl ph, ?_⟩
  intro σ ρ H F ad st Q R S h
  refine simE_bind se R S h fun x v st1 H1 F1 ad1 _ R1 S1 rv h1 => ?_
  refine sl σ ρ H1 F1 ad1 st1 _ R1 S1 ?_
  have z1 := Po.bind h1
  revert z1
  generalize ml ρ st1 = rl
  intro z1
  cases rl with
  | bad => exact z1
  | er c fs st2 => exact z1
  | ok l st2 =>
    intro H2 F2 ad2 e2 S2
    have z2 := Po.bind (z1 H2 F2 ad2 e2 S2)
    refine sh σ ρ H2 F2 ad2 st2 _ (R1.ext e2) S2 ?_
    revert z2
    generalize mh ρ st2 = rh
    intro z2
    cases rh with
    | bad => exact z2
    | er c fs st3 => exact z2
    | ok u st3 =>
      intro H3 F3 ad3 e3 S3
      have z3 := z2 H3 F3 ad3 e3 S3
      have r3 := (rv.ext e2).ext e3
      cases x with
      | ref n =>
        obtain ⟨a, ha, rfl⟩ := r3
        have z3 : Po G _ H3 F3 ad3 (QV G Q) (match st3[n]? with
          | some (.lst xs) => (match ds? (cutA xs l u) with
            | some ds => .ok (.d (.lst ds)) st3
            | none => .bad)
          | _ => .bad) := z3
        cases z : st3[n]? with
        | none => rw [z] at z3; exact z3.elim
        | some o =>
          rw [z] at z3
          cases o with
          | lst xs =>
            have z3 : Po G _ H3 F3 ad3 (QV G Q) (match ds? (cutA xs l u) with
              | some ds => .ok (.d (.lst ds)) st3
              | none => .bad) := z3
            obtain ⟨vs, h1, h2⟩ := S3.get ha z
            cases zz : ds? (cutA xs l u) with
            | none => rw [zz] at z3; exact z3.elim
            | some ds =>
              rw [zz] at z3
              refine .inl ⟨a, vs, rfl, SqL.of h1, fun p hp => ?_⟩
              have hr : RepVs G F3 ad3 (cutV vs l u) (cutA xs l u) := by
                unfold cutV cutA
                rw [Paired.length h2]
                exact Paired.take _ (Paired.drop _ h2)
              exact fin_new S3 hp (.lst upd_same ((repVs_ds hr zz).same (ext_new S3 hp).fz)) z3
          | _ => exact z3.elim
      | d x => cases x with
        | lst xs => cases r3 with
          | @lst a vs _ h1 t1 => exact .inl ⟨a, vs, rfl, SqL.of (S3.sub _ _ h1), fun p hp => fin_new S3 hp (.lst upd_same ((t1.cut l u).same (ext_new S3 hp).fz)) z3⟩
        | tup xs => cases r3 with
          | @tup a vs _ h1 t1 =>
            refine .inr ⟨a, vs, rfl, sqT_same S3.sub h1, fun hw => ?_, fun _ p hp => fin_new S3 hp (.tup (SqT.of upd_same) ((t1.cut l u).same (ext_new S3 hp).fz)) z3⟩
            have e : cutA xs l u = xs := cut_whole (by rw [← t1.length]; exact hw)
            have z3 : Po G _ H3 F3 ad3 (QV G Q) (.ok (.d (.tup (cutA xs l u))) st3) := z3
            rw [e] at z3
            exact fin_same S3 z3 _ (.tup h1 t1)
        | _ => exact z3.elim
end

/-! ### built-in calls -/
section
variable {G : Ga} {W : L2.WX} {X : Cx}
abbrev OL := List Va → Sto → Res Va
def SimC (G : Ga) (r : List V → Hp → VK → Prop) (f : OL) : Prop := ∀ (Wv : Value → Option Addr → Hp → Prop) (vs : List V) (ds : List Va) (H F : Hp) (ad : List Addr) (st : Sto) (Q : VK), RepVs G F ad vs ds → SR G H F ad st → Po G Wv H F ad (QV G Q) (f ds st) → r vs H Q
def mCB (f : OL) (m : MA) : ME := fun ρ st => (m ρ st).bind fun xs st => f xs st
theorem sim_cb {r : List V → Hp → VK → Prop} {f : OL} {t : TA} {m : MA} (hr : SimC G r f) (s : SimA G W t m) : SimE G W (tCB r t) (mCB f m) := by
  intro σ ρ H F ad st Q R S h
  exact simA_bind s R S h fun xs vs st1 H1 F1 ad1 _ R1 S1 rvs h1 => hr _ vs xs H1 F1 ad1 st1 Q rvs S1 h1
theorem de_cb {x : Str} {id : String} {r : List V → Hp → VK → Prop} {f : OL} {e : Expr} {es : List Expr} {p pos : Pos} {m : MA} (hc : CallR X (.builtin id) r) (hs : SimC G r f) (hg : Gl X x) (hm : X.mg x = none) (hv : bootBuiltins x = some (.builtin id)) (ha : DA G W X (e :: es) m)
    (hn : x ≠ "__name__" := by decide) (hdb : (x == ("__debug__" : Str)) = false := by decide) (he : starEach (e :: es) X.env = (false, eval e X.env) :: starEach es X.env := by rfl) (hpl : (backTo pos (starEach es X.env)).any (·.1) = false := by rfl) : DE G W X (.Call (.Name x p) (e :: es) [] pos) (mCB f m) := by
  obtain ⟨t, pt, st⟩ := ha
  exact ⟨_, pe_callB hc hg hm hv pt hn hdb he hpl, sim_cb hs st⟩
theorem de_ct {x : Str} {T : String} {r : List V → Hp → VK → Prop} {f : OL} {e : Expr} {es : List Expr} {p pos : Pos} {m : MA} (hc : CallR X (.type T) r) (hs : SimC G r f) (hg : Gl X x) (hm : X.mg x = none) (hv : bootBuiltins x = some (.type T)) (ha : DA G W X (e :: es) m)
    (hn : x ≠ "__name__" := by decide) (hdb : (x == ("__debug__" : Str)) = false := by decide) (he : starEach (e :: es) X.env = (false, eval e X.env) :: starEach es X.env := by rfl) (hpl : (backTo pos (starEach es X.env)).any (·.1) = false := by rfl) : DE G W X (.Call (.Name x p) (e :: es) [] pos) (mCB f m) := by
  obtain ⟨t, pt, st⟩ := ha
  exact ⟨_, pe_callTy hc hg hm hv pt hn hdb he hpl, sim_cb hs st⟩
/-! len -/
def oLen : OL
  | [.d (.str x)], st => if x.length ≤ cap then .ok (.d (.int x.length)) st else .bad
  | [.d (.lst xs)], st => .ok (.d (.int xs.length)) st
  | [.d (.tup xs)], st => .ok (.d (.int xs.length)) st
  | [.d (.lck xs)], st => .ok (.d (.int xs.length)) st
  | [.ref n], st => match st[n]? with
    | some (.lst xs) => .ok (.d (.int xs.length)) st
    | _ => .bad
  | _, _ => .bad
def rLens (K : PySem.W.Frag) : List V → Hp → VK → Prop := fun xs H Q => ∃ x n, xs = [x] ∧ LenV K x H n ∧ Q (.int n) H
theorem cr_len (hK : X.K = G.K) : CallR X (.builtin "len") (rLens G.K) := by rw [← hK]; exact call_len
theorem sim_len : SimC G (rLens G.K) oLen := by
  intro Wv vs ds H F ad st Q r S h
  cases r with
  | nil => exact h.elim
  | @cons v x vs' ds' r t =>
    cases t with
    | cons r2 t2 => cases x with
      | ref n => exact h.elim
      | d x => cases x <;> exact h.elim
    | nil =>
      cases x with
      | ref n =>
        obtain ⟨a, ha, rfl⟩ := r
        have h : Po G Wv H F ad (QV G Q) (match st[n]? with
          | some (.lst xs) => .ok (.d (.int xs.length)) st
          | _ => .bad) := h
        cases z : st[n]? with
        | none => rw [z] at h; exact h.elim
        | some o =>
          rw [z] at h
          cases o with
          | lst xs =>
            obtain ⟨ws, h1, h2⟩ := S.get ha z
            refine ⟨_, ws.length, rfl, .inl ⟨ws, SqL.of h1, rfl⟩, ?_⟩
            rw [Paired.length h2]
            exact fin_same S h _ (.int _)
          | _ => exact h.elim
      | d x =>
        cases r with
        | str x =>
          have h : Po G Wv H F ad (QV G Q) (if x.length ≤ cap then .ok (.d (.int x.length)) st else .bad) := h
          split at h
          · rename_i hc
            exact ⟨_, _, rfl, ⟨cap_ok hc, rfl⟩, fin_same S h _ (.int _)⟩
          · exact h.elim
        | @lst a ws xs h1 t1 =>
          refine ⟨_, ws.length, rfl, .inl ⟨_, SqL.of (S.sub _ _ h1), rfl⟩, ?_⟩
          rw [t1.length]
          exact fin_same S h _ (.int _)
        | @tup a ws xs h1 t1 =>
          refine ⟨_, ws.length, rfl, .inr ⟨_, sqT_same S.sub h1, rfl⟩, ?_⟩
          rw [t1.length]
          exact fin_same S h _ (.int _)
        | @lck a ns h1 =>
          refine ⟨_, (ns.map V.int).length, rfl, .inl ⟨_, S.sub.seq h1, rfl⟩, ?_⟩
          rw [List.length_map]
          exact fin_same S h _ (.int _)
        | _ => exact h.elim
/-! one int, two ints -/
def oI1 (f : Int → Int) : OL
  | [.d (.int i)], st => .ok (.d (.int (f i))) st
  | _, _ => .bad
theorem sim_I1 {f : Int → Int} : SimC G (fun xs H Q => ∃ i, xs = [.int i] ∧ Q (.int (f i)) H) (oI1 f) := by
  intro Wv vs ds H F ad st Q r S h
  cases r with
  | nil => exact h.elim
  | @cons v x vs' ds' r t =>
    cases t with
    | cons r2 t2 => cases x with
      | ref n => exact h.elim
      | d x => cases x <;> exact h.elim
    | nil => cases x with
      | ref n => exact h.elim
      | d x => cases r with
        | int i => exact ⟨i, rfl, fin_same S h _ (.int _)⟩
        | _ => exact h.elim
def oI2 (f : Int → Int → Int) : OL
  | [.d (.int i), .d (.int j)], st => .ok (.d (.int (f i j))) st
  | _, _ => .bad
theorem sim_I2 {f : Int → Int → Int} : SimC G (fun xs H Q => ∃ i j, xs = [.int i, .int j] ∧ Q (.int (f i j)) H) (oI2 f) := by
  intro Wv vs ds H F ad st Q r S h
  cases r with
  | nil => exact h.elim
  | @cons v x vs' ds' r t =>
    cases t with
    | nil => cases x with
      | ref n => exact h.elim
      | d x => cases x <;> exact h.elim
    | @cons v2 x2 _ _ r2 t2 =>
      cases x with
      | ref n => exact h.elim
      | d x => cases x2 with
        | ref n => cases x <;> exact h.elim
        | d x2 => cases t2 with
          | cons _ _ => cases x <;> (try exact h.elim) <;> cases x2 <;> exact h.elim
          | nil => cases r with
            | int i => cases r2 with
              | int j => exact ⟨i, j, rfl, fin_same S h _ (.int _)⟩
              | _ => exact h.elim
            | _ => exact h.elim
def oAbs : OL := oI1 fun i => if i < 0 then -i else i
def oMax : OL := oI2 fun i j => if j > i then j else i
def oMin : OL := oI2 fun i j => if j < i then j else i
def oInt : OL
  | [.d (.int i)], st => .ok (.d (.int i)) st
  | [.d (.bl b)], st => .ok (.d (.int (if b then 1 else 0))) st
  | _, _ => .bad
theorem sim_int : SimC G (fun xs H Q => (∃ i, xs = [.int i] ∧ Q (.int i) H) ∨ ∃ k, xs = [.bl k] ∧ Q (.int (if k then 1 else 0)) H) oInt := by
  intro Wv vs ds H F ad st Q r S h
  cases r with
  | nil => exact h.elim
  | @cons v x vs' ds' r t =>
    cases t with
    | cons r2 t2 => cases x with
      | ref n => exact h.elim
      | d x => cases x <;> exact h.elim
    | nil => cases x with
      | ref n => exact h.elim
      | d x => cases r with
        | int i => exact .inl ⟨i, rfl, fin_same S h _ (.int _)⟩
        | bl b => exact .inr ⟨b, rfl, fin_same S h _ (.int _)⟩
        | _ => exact h.elim
/-! lists of ints, of bools -/
def ints? : List D → Option (List Int)
  | [] => some []
  | .int x :: r => (ints? r).map (x :: ·)
  | _ => none
@[simp] theorem ints?_map : ∀ xs : List Int, ints? (xs.map D.int) = some xs
  | [] => rfl
  | x :: xs => by
    show (ints? (xs.map D.int)).map (x :: ·) = _
    rw [ints?_map xs]
    rfl
theorem ints?_ok {F : Hp} : ∀ {vs : List V} {ds : List D} {ns : List Int}, Reps G F vs ds → ints? ds = some ns → vs = ns.map V.int
  | _, _, ns, .nil, h => by cases h; rfl
  | _, _, ns, @Reps.cons _ _ _ _ _ ds r t, h => by
    cases r with
    | @int i =>
      have h : (ints? ds).map (i :: ·) = some ns := h
      cases z : ints? ds with
      | none => rw [z] at h; cases h
      | some es =>
        rw [z] at h
        cases h
        rw [ints?_ok t z]
        rfl
    | _ => cases h
def bls? : List D → Option (List Bool)
  | [] => some []
  | .bl x :: r => (bls? r).map (x :: ·)
  | _ => none
@[simp] theorem bls?_map : ∀ xs : List Bool, bls? (xs.map D.bl) = some xs
  | [] => rfl
  | x :: xs => by
    show (bls? (xs.map D.bl)).map (x :: ·) = _
    rw [bls?_map xs]
    rfl
theorem bls?_ok {F : Hp} : ∀ {vs : List V} {ds : List D} {ns : List Bool}, Reps G F vs ds → bls? ds = some ns → vs = ns.map V.bl
  | _, _, ns, .nil, h => by cases h; rfl
  | _, _, ns, @Reps.cons _ _ _ _ _ ds r t, h => by
    cases r with
    | @bl i =>
      have h : (bls? ds).map (i :: ·) = some ns := h
      cases z : bls? ds with
      | none => rw [z] at h; cases h
      | some es =>
        rw [z] at h
        cases h
        rw [bls?_ok t z]
        rfl
    | _ => cases h
/-- what is read off a list, frozen or a cell -/
def lst? : Va → Sto → Option (List D)
  | .d (.lst xs), _ => some xs
  | .ref n, st => match st[n]? with
    | some (.lst xs) => ds? xs
    | _ => none
  | _, _ => none
theorem lst?_ok {H F : Hp} {ad : List Addr} {st : Sto} {v : V} {x : Va} {ds : List D} (S : SR G H F ad st) (r : RepV G F ad v x) (e : lst? x st = some ds) : ∃ a vs, v = .ref a ∧ H a = some (.lst vs) ∧ Reps G F vs ds := by
  cases x with
  | ref n =>
    obtain ⟨a, ha, rfl⟩ := r
    have e : (match st[n]? with
      | some (.lst xs) => ds? xs
      | _ => none) = some ds := e
    cases z : st[n]? with
    | none => rw [z] at e; cases e
    | some o =>
      rw [z] at e
      cases o with
      | lst xs =>
        obtain ⟨vs, h1, h2⟩ := S.get ha z
        exact ⟨a, vs, rfl, h1, repVs_ds h2 e⟩
      | _ => cases e
  | d x =>
    cases r with
    | lst h t => cases e; exact ⟨_, _, rfl, S.sub _ _ h, t⟩
    | _ => cases e
def oL1 (f : List D → Option D) : OL
  | [x], st => match lst? x st with
    | some ds => (match f ds with
      | some y => .ok (.d y) st
      | none => .bad)
    | none => .bad
  | _, _ => .bad
theorem sim_L1 {f : List D → Option D} {r : List V → Hp → VK → Prop} (hr : ∀ (F H : Hp) (a : Addr) (vs : List V) (ds : List D) (y : D) (Q : VK), H a = some (.lst vs) → Reps G F vs ds → f ds = some y → (∀ v, Rep G F v y → Q v H) → r [.ref a] H Q) : SimC G r (oL1 f) := by
  intro Wv vs ds H F ad st Q rp S h
  cases rp with
  | nil => exact h.elim
  | @cons v x vs' ds' rp t =>
    cases t with
    | cons r2 t2 => exact h.elim
    | nil =>
      have h : Po G Wv H F ad (QV G Q) (match lst? x st with
        | some ds => (match f ds with
          | some y => .ok (.d y) st
          | none => .bad)
        | none => .bad) := h
      cases z : lst? x st with
      | none => rw [z] at h; exact h.elim
      | some ds =>
        rw [z] at h
        have h : Po G Wv H F ad (QV G Q) (match f ds with
          | some y => .ok (.d y) st
          | none => .bad) := h
        cases zz : f ds with
        | none => rw [zz] at h; exact h.elim
        | some y =>
          rw [zz] at h
          obtain ⟨a, ws, rfl, h1, h2⟩ := lst?_ok S rp z
          exact hr F H a ws ds y Q h1 h2 zz fun v rv => fin_same S h v rv
def oAll : OL := oL1 fun ds => (bls? ds).map fun bs => .bl (bs.all id)
def oAny : OL := oL1 fun ds => (bls? ds).map fun bs => .bl (bs.any id)
def oSum : OL := oL1 fun ds => (ints? ds).map fun bs => .int bs.sum
theorem cr_all' (hK : X.K = G.K) (hc : X.calm = true) : CallR X (.builtin "all") (rAll G.K) := by rw [← hK]; exact cr_all hc
theorem cr_any' (hK : X.K = G.K) (hc : X.calm = true) : CallR X (.builtin "any") (rAny G.K) := by rw [← hK]; exact cr_any hc
theorem cr_sum' (hK : X.K = G.K) (hc : X.calm = true) : CallR X (.builtin "sum") (rSum G.K) := by rw [← hK]; exact cr_sum hc
theorem sim_all : SimC G (rAll G.K) oAll := sim_L1 fun F H a vs ds y Q h t e q => by
  cases z : bls? ds with
  | none => rw [z] at e; cases e
  | some bs =>
    rw [z] at e
    cases e
    rw [bls?_ok t z] at h
    exact ⟨a, bs, rfl, SqL.of h, q _ (.bl _)⟩
theorem sim_any : SimC G (rAny G.K) oAny := sim_L1 fun F H a vs ds y Q h t e q => by
  cases z : bls? ds with
  | none => rw [z] at e; cases e
  | some bs =>
    rw [z] at e
    cases e
    rw [bls?_ok t z] at h
    exact ⟨a, bs, rfl, SqL.of h, q _ (.bl _)⟩
theorem sim_sum : SimC G (rSum G.K) oSum := sim_L1 fun F H a vs ds y Q h t e q => by
  cases z : ints? ds with
  | none => rw [z] at e; cases e
  | some bs =>
    rw [z] at e
    cases e
    rw [ints?_ok t z] at h
    exact ⟨a, bs, rfl, SqL.of h, q _ (.int _)⟩
/-! tuple(x), list(x) -/
def oTuple : OL
  | [.d (.tup xs)], st => .ok (.d (.tup xs)) st
  | [x], st => match lst? x st with
    | some ds => .ok (.d (.tup ds)) st
    | none => .bad
  | _, _ => .bad
def rTupleOf (K : PySem.W.Frag) : List V → Hp → VK → Prop := fun xs H Q => ∃ p ys, xs = [.ref p] ∧ ((SqL K H p ys ∧ ∀ l, H l = none → Q (.ref l) (upd H l (.tup ys))) ∨ (SqT K H p ys ∧ Q (.ref p) H))
def rListOf (K : PySem.W.Frag) : List V → Hp → VK → Prop := fun xs H Q => ∃ p ys, xs = [.ref p] ∧ (SqL K H p ys ∨ SqT K H p ys) ∧ ∀ l, H l = none → Q (.ref l) (upd H l (.lst ys))
theorem cr_tuple (hK : X.K = G.K) : CallR X (.type "tuple") (rTupleOf G.K) := by rw [← hK]; exact call_tuple_of
theorem cr_list (hK : X.K = G.K) : CallR X (.type "list") (rListOf G.K) := by rw [← hK]; exact call_list_of
theorem sim_tuple : SimC G (rTupleOf G.K) oTuple := by
  intro Wv vs ds H F ad st Q rp S h
  cases rp with
  | nil => exact h.elim
  | @cons v x vs' ds' rp t =>
    cases t with
    | cons r2 t2 => cases x with
      | ref n => exact h.elim
      | d x => cases x <;> exact h.elim
    | nil =>
      have go : Po G Wv H F ad (QV G Q) (match lst? x st with
        | some ds => .ok (.d (.tup ds)) st
        | none => .bad) → rTupleOf G.K [v] H Q := by
        intro h
        cases z : lst? x st with
        | none => rw [z] at h; exact h.elim
        | some ds =>
          rw [z] at h
          obtain ⟨a, ws, rfl, h1, h2⟩ := lst?_ok S rp z
          exact ⟨a, ws, rfl, .inl ⟨SqL.of h1, fun l hl => fin_new S hl (.tup (SqT.of upd_same) (h2.same (ext_new S hl).fz)) h⟩⟩
      cases x with
      | ref n => exact go h
      | d x => cases x with
        | tup xs => cases rp with
          | tup h1 t1 => exact ⟨_, _, rfl, .inr ⟨sqT_same S.sub h1, fin_same S h _ (.tup h1 t1)⟩⟩
        | _ => exact go h
def oList : OL
  | [x], st => match itemsOf x st with
    | some xs => (match ds? xs with
      | some ds => .ok (.d (.lst ds)) st
      | none => .bad)
    | none => .bad
  | _, _ => .bad
theorem sim_list : SimC G (rListOf G.K) oList := by
  intro Wv vs ds H F ad st Q rp S h
  cases rp with
  | nil => exact h.elim
  | @cons v x vs' ds' rp t =>
    cases t with
    | cons r2 t2 => exact h.elim
    | nil =>
      have h : Po G Wv H F ad (QV G Q) (match itemsOf x st with
        | some xs => (match ds? xs with
          | some ds => .ok (.d (.lst ds)) st
          | none => .bad)
        | none => .bad) := h
      cases z : itemsOf x st with
      | none => rw [z] at h; exact h.elim
      | some xs =>
        rw [z] at h
        have h : Po G Wv H F ad (QV G Q) (match ds? xs with
          | some ds => .ok (.d (.lst ds)) st
          | none => .bad) := h
        cases zz : ds? xs with
        | none => rw [zz] at h; exact h.elim
        | some ds =>
          rw [zz] at h
          obtain ⟨a, ws, rfl, h1, h2⟩ := itemsOf_ok S rp z
          exact ⟨a, ws, rfl, h1, fun l hl => fin_new S hl (.lst upd_same ((repVs_ds h2 zz).same (ext_new S hl).fz)) h⟩
/-- list(x), to be changed -/
def oListC : OL
  | [x], st => match itemsOf x st with
    | some xs => .ok (.ref st.length) (st ++ [.lst xs])
    | none => .bad
  | _, _ => .bad
theorem sim_listC : SimC G (rListOf G.K) oListC := by
  intro Wv vs ds H F ad st Q rp S h
  cases rp with
  | nil => exact h.elim
  | @cons v x vs' ds' rp t =>
    cases t with
    | cons r2 t2 => exact h.elim
    | nil =>
      have h : Po G Wv H F ad (QV G Q) (match itemsOf x st with
        | some xs => .ok (.ref st.length) (st ++ [.lst xs])
        | none => .bad) := h
      cases z : itemsOf x st with
      | none => rw [z] at h; exact h.elim
      | some xs =>
        rw [z] at h
        obtain ⟨a, ws, rfl, h1, h2⟩ := itemsOf_ok S rp z
        exact ⟨a, ws, rfl, h1, fun l hl => fin_cell (m := .lst xs) S hl ⟨ws, upd_same, RepVs.ext (ext_cell S (o := .lst ws) hl) h2⟩ h⟩
/-! isinstance -/
inductive Tag where
  | ty (n : String) | cl (c : String)
def tagOf : Va → Sto → Option Tag
  | .d .non, _ => some (.ty "NoneType")
  | .d (.bl _), _ => some (.ty "bool")
  | .d (.int _), _ => some (.ty "int")
  | .d (.str _), _ => some (.ty "str")
  | .d (.lst _), _ => some (.ty "list")
  | .d (.tup _), _ => some (.ty "tuple")
  | .d (.obj c _), _ => some (.cl c)
  | .ref n, st => match st[n]? with
    | some (.lst _) => some (.ty "list")
    | some (.obj c _) => some (.cl c)
    | _ => none
  | _, _ => none
def Tag.val (G : Ga) : Tag → Value
  | .ty n => .type n
  | .cl c => .ref (G.ca c)
theorem tyT' {K : PySem.W.Frag} {H : Hp} {a : Addr} {xs : List V} (h : SqT K H a xs) : TyX K H (.ref a) (.type "tuple") := by
  rcases h with (h | ⟨o, h⟩) | ⟨o, its, n, h1, h2, _⟩
  · exact .base (.tup h)
  · exact .fTuple h
  · exact .kTuple h1 h2
theorem ty_ins {H : Hp} {a dx : Addr} {vfs : List (Str × V)} {c : String} (hc : c ∈ G.cs) (h : H a = some (.ins (G.ca c) dx vfs)) : TyX G.K H (.ref a) (.ref (G.ca c)) :=
  .base (.ins h (G.cok c hc).cl (G.cok c hc).tc (G.cok c hc).tg (G.cok c hc).tk (G.cok c hc).tm)
theorem tagOf_ok {H F : Hp} {ad : List Addr} {st : Sto} {v : V} {x : Va} {g : Tag} (S : SR G H F ad st) (r : RepV G F ad v x) (e : tagOf x st = some g) : TyX G.K H v (g.val G) ∧ (∀ c, g = .cl c → c ∈ G.cs) ∧ (∀ n, g = .ty n → n ∈ ["int", "bool", "str", "list", "tuple", "dict", "NoneType"]) := by
  cases x with
  | ref n =>
    obtain ⟨a, ha, rfl⟩ := r
    have e : (match st[n]? with
      | some (.lst _) => some (.ty "list")
      | some (.obj c _) => some (.cl c)
      | _ => none) = some g := e
    cases z : st[n]? with
    | none => rw [z] at e; cases e
    | some o =>
      rw [z] at e
      cases o with
      | lst xs =>
        obtain ⟨vs, h1, h2⟩ := S.get ha z
        cases e
        exact ⟨.base (.lst h1), fun c z => (by cases z), fun n z => (by cases z; decide)⟩
      | obj c fs =>
        obtain ⟨hc, dx, vfs, h1, h2⟩ := S.get ha z
        cases e
        exact ⟨ty_ins hc h1, fun c z => (by cases z; exact hc), fun n z => (by cases z)⟩
      | dct _ => cases e
  | d x =>
    cases r with
    | non => cases e; exact ⟨.base .non, fun c z => (by cases z), fun n z => (by cases z; decide)⟩
    | bl b => cases e; exact ⟨.base (.bl b), fun c z => (by cases z), fun n z => (by cases z; decide)⟩
    | int i => cases e; exact ⟨.base (.int i), fun c z => (by cases z), fun n z => (by cases z; decide)⟩
    | str x => cases e; exact ⟨.base (.str x), fun c z => (by cases z), fun n z => (by cases z; decide)⟩
    | lst h t => cases e; exact ⟨.base (.lst (S.sub _ _ h)), fun c z => (by cases z), fun n z => (by cases z; decide)⟩
    | tup h t => cases e; exact ⟨tyT' (sqT_same S.sub h), fun c z => (by cases z), fun n z => (by cases z; decide)⟩
    | obj hc h t => cases e; exact ⟨ty_ins hc (S.sub _ _ h), fun c z => (by cases z; exact hc), fun n z => (by cases z)⟩
    | cls c _ => cases e
    | ty n => cases e
    | lck h => cases e
    | idn h => cases e
/-- the answer for one class -/
def isi1 : Tag → D → Option Bool
  | .ty n, .ty T => if T ∈ ["int", "bool", "str", "list", "tuple", "dict"] then some (n == T || (n == "bool" && T == "int")) else none
  | .cl _, .ty T => if T ∈ ["int", "bool", "str", "list", "tuple", "dict"] then some false else none
  | .ty _, .cls _ => some false
  | .cl c, .cls e => some (decide (c = e))
  | _, _ => none
theorem isi1_ok {g : Tag} {t : D} {b : Bool} {F : Hp} {v : V} (e : isi1 g t = some b) (hg : ∀ c, g = .cl c → c ∈ G.cs) (hn : ∀ n, g = .ty n → n ∈ ["int", "bool", "str", "list", "tuple", "dict", "NoneType"]) (ht : ∀ c, t = .cls c → c ∈ G.cs) (r : Rep G F v t) : ∃ u, ClsV v u ∧ PySem.W.kitOne G.K (g.val G) u = some b := by
  cases g with
  | ty n =>
    cases t with
    | ty T =>
      cases r
      have e : (if T ∈ ["int", "bool", "str", "list", "tuple", "dict"] then some (n == T || (n == "bool" && T == "int")) else none) = some b := e
      split at e
      · rename_i hT
        refine ⟨_, .ty T, ?_⟩
        have h1 := hn n rfl
        cases e
        simp only [List.mem_cons, List.not_mem_nil, or_false] at h1 hT
        rcases h1 with h1 | h1 | h1 | h1 | h1 | h1 | h1 <;> rcases hT with hT | hT | hT | hT | hT | hT <;> subst h1 hT <;> exact kit_ty (by decide +kernel)
      · cases e
    | cls c =>
      cases r
      cases e
      exact ⟨_, .own _, (G.cok c (ht c rfl)).i n (hn n rfl)⟩
    | _ => cases e
  | cl c =>
    cases t with
    | ty T =>
      cases r
      have e : (if T ∈ ["int", "bool", "str", "list", "tuple", "dict"] then some false else none) = some b := e
      split at e
      · rename_i hT
        cases e
        exact ⟨_, .ty T, (G.cok c (hg c rfl)).o T hT⟩
      · cases e
    | cls k =>
      cases r
      cases e
      exact ⟨_, .own _, G.kit c (hg c rfl) k (ht k rfl)⟩
    | _ => cases e
def isiA (g : Tag) : List D → Option Bool
  | [] => some false
  | t :: ts => match isi1 g t, isiA g ts with
    | some a, some b => some (a || b)
    | _, _ => none
end

section
variable {G : Ga} {W : L2.WX} {X : Cx}
def oIsi : OL
  | [x, .d t], st => match tagOf x st with
    | some g => (match isi1 g t with
      | some b => .ok (.d (.bl b)) st
      | none => .bad)
    | none => .bad
  | _, _ => .bad
theorem cr_isi (hK : X.K = G.K) : CallR X (.builtin "isinstance") (rIsi G.K) := by rw [← hK]; exact call_isi
theorem sim_isi : SimC G (rIsi G.K) oIsi := by
  intro Wv vs ds H F ad st Q rp S h
  cases rp with
  | nil => exact h.elim
  | @cons v x vs' ds' rp t =>
    cases t with
    | nil => exact h.elim
    | @cons v2 y _ _ rq t =>
      cases y with
      | ref n => exact h.elim
      | d y => cases t with
        | cons _ _ => exact h.elim
        | nil =>
          have h : Po G Wv H F ad (QV G Q) (match tagOf x st with
            | some g => (match isi1 g y with
              | some b => .ok (.d (.bl b)) st
              | none => .bad)
            | none => .bad) := h
          cases z : tagOf x st with
          | none => rw [z] at h; exact h.elim
          | some g =>
            rw [z] at h
            have h : Po G Wv H F ad (QV G Q) (match isi1 g y with
              | some b => .ok (.d (.bl b)) st
              | none => .bad) := h
            cases zz : isi1 g y with
            | none => rw [zz] at h; exact h.elim
            | some b =>
              rw [zz] at h
              obtain ⟨h1, h2, h3⟩ := tagOf_ok S rp z
              have h4 : ∀ c, y = .cls c → c ∈ G.cs := fun c e => by
                subst e
                cases rq with
                | cls _ hc => exact hc
              obtain ⟨u, h5, h6⟩ := isi1_ok zz h2 h3 h4 rq
              exact ⟨v, v2, _, u, b, rfl, h5, h1, h6, fin_same S h _ (.bl _)⟩
/-- isinstance(x, (list, tuple)) -/
def mIsiLT (a : ME) : ME := fun ρ st => (a ρ st).bind fun x st => match tagOf x st with
  | some (.ty n) => .ok (.d (.bl (n == "list" || n == "tuple"))) st
  | some (.cl _) => .ok (.d (.bl false)) st
  | none => .bad
theorem kitLT {g : Tag} (hg : ∀ c, g = .cl c → c ∈ G.cs) (hn : ∀ n, g = .ty n → n ∈ ["int", "bool", "str", "list", "tuple", "dict", "NoneType"]) :
    PySem.W.kitAny G.K (g.val G) [.type "list", .type "tuple"] = some (match g with | .ty n => n == "list" || n == "tuple" | .cl _ => false) := by
  cases g with
  | cl c => exact kitAny_cons (b := false) ((G.cok c (hg c rfl)).o "list" (by decide)) (fun _ => kitAny_cons (b := false) ((G.cok c (hg c rfl)).o "tuple" (by decide)) (fun _ => kitAny_nil) (fun z => by cases z)) (fun z => by cases z)
  | ty n =>
    have h1 := hn n rfl
    simp only [List.mem_cons, List.not_mem_nil, or_false] at h1
    rcases h1 with h1 | h1 | h1 | h1 | h1 | h1 | h1 <;> subst h1
    · exact kitAny_cons (b := false) (kit_ty (by decide +kernel)) (fun _ => kitAny_cons (b := false) (kit_ty (by decide +kernel)) (fun _ => kitAny_nil) (fun z => by cases z)) (fun z => by cases z)
    · exact kitAny_cons (b := false) (kit_ty (by decide +kernel)) (fun _ => kitAny_cons (b := false) (kit_ty (by decide +kernel)) (fun _ => kitAny_nil) (fun z => by cases z)) (fun z => by cases z)
    · exact kitAny_cons (b := false) (kit_ty (by decide +kernel)) (fun _ => kitAny_cons (b := false) (kit_ty (by decide +kernel)) (fun _ => kitAny_nil) (fun z => by cases z)) (fun z => by cases z)
    · exact kitAny_cons (b := true) (kit_ty (by decide +kernel)) (fun z => by cases z) (fun _ => rfl)
    · exact kitAny_cons (b := false) (kit_ty (by decide +kernel)) (fun _ => kitAny_cons (b := true) (kit_ty (by decide +kernel)) (fun z => by cases z) (fun _ => rfl)) (fun z => by cases z)
    · exact kitAny_cons (b := false) (kit_ty (by decide +kernel)) (fun _ => kitAny_cons (b := false) (kit_ty (by decide +kernel)) (fun _ => kitAny_nil) (fun z => by cases z)) (fun z => by cases z)
    · exact kitAny_cons (b := false) (kit_ty (by decide +kernel)) (fun _ => kitAny_cons (b := false) (kit_ty (by decide +kernel)) (fun _ => kitAny_nil) (fun z => by cases z)) (fun z => by cases z)
theorem de_isiLT {a l t : Expr} {x : Str} {x1} {p p2 pos : Pos} {ma : ME} (hK : X.K = G.K) (hg : Gl X x) (hm : X.mg x = none) (hv : bootBuiltins x = some (.builtin "isinstance")) (ha : DE G W X a ma) (hl : PE X l (tC (.ty "list"))) (ht : PE X t (tC (.ty "tuple")))
    (hn : x ≠ "__name__" := by decide) (hdb : (x == ("__debug__" : Str)) = false := by decide)
    (h1 : starEach [l, t] X.env = (false, eval l X.env) :: starEach [t] X.env := by rfl) (h2 : starEach [t] X.env = (false, eval t X.env) :: starEach [] X.env := by rfl) (h3 : starEach [.Tuple [l, t] x1 p2] X.env = (false, eval (.Tuple [l, t] x1 p2) X.env) :: starEach [] X.env := by rfl)
    (he : starEach [a, .Tuple [l, t] x1 p2] X.env = (false, eval a X.env) :: starEach [.Tuple [l, t] x1 p2] X.env := by rfl) (hpl : (backTo pos (starEach [.Tuple [l, t] x1 p2] X.env)).any (·.1) = false := by rfl) : DE G W X (.Call (.Name x p) [a, .Tuple [l, t] x1 p2] [] pos) (mIsiLT ma) := by
  obtain ⟨ta, pa, sa⟩ := ha
  refine ⟨_, pe_callB (r := rIsiT G.K) (by rw [← hK]; exact call_isiT) hg hm hv (pa_cons pa (pa_cons (pe_tup (pa_cons hl (pa_cons ht pa_nil h2) h1)) pa_nil h3) he) hn hdb he hpl, ?_⟩
  intro σ ρ H F ad st Q R S h
  refine simE_bind sa R S h fun y v st1 H1 F1 ad1 _ R1 S1 rv h1 => ?_
  refine ⟨(by show 2 ≤ sizeLine; decide), fun q hq => ?_⟩
  cases z : tagOf y st1 with
  | none => rw [z] at h1; exact h1.elim
  | some g =>
    rw [z] at h1
    have E := ext_new S1 (o := .tup [.ty "list", .ty "tuple"]) hq
    have S2 := S1.new (o := .tup [.ty "list", .ty "tuple"]) hq
    obtain ⟨k1, k2, k3⟩ := tagOf_ok S2 (rv.ext E) z
    refine ⟨v, q, _, _, _, _, rfl, upd_same, .cons (.ty _) (.cons (.ty _) .nil), k1, kitLT k2 k3, ?_⟩
    cases g with
    | ty n => exact h1 _ _ _ E S2 _ (.bl _)
    | cl c => exact h1 _ _ _ E S2 _ (.bl _)
/-! == of data -/
mutual
def D.eqv : D → D → Bool
  | .non, .non => true
  | .bl a, .bl b => a == b
  | .bl a, .int j => (if a then 1 else 0) == j
  | .int i, .bl b => i == (if b then 1 else 0)
  | .int i, .int j => i == j
  | .str x, .str y => x == y
  | .lst xs, .lst ys => D.eqvs xs ys
  | .tup xs, .tup ys => D.eqvs xs ys
  | _, _ => false
def D.eqvs : List D → List D → Bool
  | [], [] => true
  | x :: xs, y :: ys => D.eqv x y && D.eqvs xs ys
  | _, _ => false
end
mutual
def toP : D → PyData
  | .non => .none
  | .bl b => .bool b
  | .int i => .int i
  | .str x => .str x
  | .lst xs => .list (toPs xs)
  | .tup xs => .tuple (toPs xs)
  | _ => .dict []
def toPs : List D → List PyData
  | [] => []
  | x :: xs => toP x :: toPs xs
end
mutual
def okd : Nat → D → Bool
  | _, .non => true
  | _, .bl _ => true
  | _, .int _ => true
  | _, .str x => PyData.strOk x
  | k, .lst xs => decide (k ≠ 0) && okds (k - 1) xs
  | k, .tup xs => decide (k ≠ 0) && okds (k - 1) xs
  | _, _ => false
def okds : Nat → List D → Bool
  | _, [] => true
  | k, x :: xs => okd k x && okds k xs
end
mutual
theorem okd_dp {F H : Hp} (S : Same F H) : ∀ {k : Nat} {x : D} {v : V}, okd k x = true → Rep G F v x → Dp G.K H v (toP x) ∧ (toP x).canLay0 = true ∧ (toP x).depth ≤ k
  | k, .non, v, _, r => by cases r; exact ⟨.non, rfl, Nat.zero_le _⟩
  | k, .bl b, v, _, r => by cases r; exact ⟨.bl b, rfl, Nat.zero_le _⟩
  | k, .int i, v, _, r => by cases r; exact ⟨.int i, rfl, Nat.zero_le _⟩
  | k, .str x, v, h, r => by cases r; exact ⟨.str x, h, Nat.zero_le _⟩
  | k, .lst xs, v, h, r => by
    cases r with
    | @lst a vs _ h1 t =>
      obtain ⟨h2, h3⟩ := Bool.and_eq_true_iff.mp (show (decide (k ≠ 0) && okds (k - 1) xs) = true from h)
      obtain ⟨e1, e2, e3⟩ := okds_dp S (xs := xs) h3 t
      have hk : k ≠ 0 := of_decide_eq_true h2
      exact ⟨.lst (SqL.of (S _ _ h1)) e1, e2, by show PyData.depthAll (toPs xs) + 1 ≤ k; omega⟩
  | k, .tup xs, v, h, r => by
    cases r with
    | @tup a vs _ h1 t =>
      obtain ⟨h2, h3⟩ := Bool.and_eq_true_iff.mp (show (decide (k ≠ 0) && okds (k - 1) xs) = true from h)
      obtain ⟨e1, e2, e3⟩ := okds_dp S (xs := xs) h3 t
      have hk : k ≠ 0 := of_decide_eq_true h2
      exact ⟨.tup (sqT_same S h1) e1, e2, by show PyData.depthAll (toPs xs) + 1 ≤ k; omega⟩
  | k, .obj _ _, v, h, r => by simp [okd] at h
  | k, .dct _, v, h, r => by simp [okd] at h
  | k, .cls _, v, h, r => by simp [okd] at h
  | k, .ty _, v, h, r => by simp [okd] at h
  | k, .lck _, v, h, r => by simp [okd] at h
  | k, .idn _ _, v, h, r => by simp [okd] at h
theorem okds_dp {F H : Hp} (S : Same F H) : ∀ {k : Nat} {xs : List D} {vs : List V}, okds k xs = true → Reps G F vs xs → DpAll G.K H vs (toPs xs) ∧ PyData.canLayAll0 (toPs xs) = true ∧ PyData.depthAll (toPs xs) ≤ k
  | k, [], vs, _, r => by cases r; exact ⟨.nil, rfl, Nat.zero_le _⟩
  | k, x :: xs, vs, h, r => by
    cases r with
    | @cons v _ vs _ r t =>
      obtain ⟨h2, h3⟩ := Bool.and_eq_true_iff.mp (show (okd k x && okds k xs) = true from h)
      obtain ⟨e1, e2, e3⟩ := okd_dp S (x := x) h2 r
      obtain ⟨f1, f2, f3⟩ := okds_dp S (xs := xs) h3 t
      exact ⟨.cons e1 f1, by show (PyData.canLay0 (toP x) && PyData.canLayAll0 (toPs xs)) = true; rw [e2, f2]; rfl, Nat.max_le.mpr ⟨e3, f3⟩⟩
end
mutual
theorem eqv_toP : ∀ {k l : Nat} {x y : D}, okd k x = true → okd l y = true → PyData.eqv (toP x) (toP y) = D.eqv x y
  | k, l, .obj _ _, y, h, _ => by simp [okd] at h
  | k, l, .dct _, y, h, _ => by simp [okd] at h
  | k, l, .cls _, y, h, _ => by simp [okd] at h
  | k, l, .ty _, y, h, _ => by simp [okd] at h
  | k, l, .lck _, y, h, _ => by simp [okd] at h
  | k, l, .idn _ _, y, h, _ => by simp [okd] at h
  | k, l, .non, y, _, h2 => by cases y <;> first | (simp [okd] at h2; done) | simp [toP, PyData.eqv, D.eqv]
  | k, l, .bl b, y, _, h2 => by cases y <;> first | (simp [okd] at h2; done) | simp [toP, PyData.eqv, D.eqv]
  | k, l, .int i, y, _, h2 => by cases y <;> first | (simp [okd] at h2; done) | simp [toP, PyData.eqv, D.eqv]
  | k, l, .str x, y, _, h2 => by cases y <;> first | (simp [okd] at h2; done) | simp [toP, PyData.eqv, D.eqv]
  | k, l, .lst xs, y, h1, h2 => by
    cases y with
    | lst ys =>
      have e1 := (Bool.and_eq_true_iff.mp (show (decide (k ≠ 0) && okds (k - 1) xs) = true from h1)).2
      have e2 := (Bool.and_eq_true_iff.mp (show (decide (l ≠ 0) && okds (l - 1) ys) = true from h2)).2
      have := eqvs_toP (xs := xs) (ys := ys) e1 e2
      simpa [toP, PyData.eqv, D.eqv] using this
    | _ => first | (simp [okd] at h2; done) | simp [toP, PyData.eqv, D.eqv]
  | k, l, .tup xs, y, h1, h2 => by
    cases y with
    | tup ys =>
      have e1 := (Bool.and_eq_true_iff.mp (show (decide (k ≠ 0) && okds (k - 1) xs) = true from h1)).2
      have e2 := (Bool.and_eq_true_iff.mp (show (decide (l ≠ 0) && okds (l - 1) ys) = true from h2)).2
      have := eqvs_toP (xs := xs) (ys := ys) e1 e2
      simpa [toP, PyData.eqv, D.eqv] using this
    | _ => first | (simp [okd] at h2; done) | simp [toP, PyData.eqv, D.eqv]
theorem eqvs_toP : ∀ {k l : Nat} {xs ys : List D}, okds k xs = true → okds l ys = true → PyData.eqvAll (toPs xs) (toPs ys) = D.eqvs xs ys
  | k, l, [], [], _, _ => by simp [toPs, PyData.eqvAll, D.eqvs]
  | k, l, [], _ :: _, _, _ => by simp [toPs, PyData.eqvAll, D.eqvs]
  | k, l, _ :: _, [], _, _ => by simp [toPs, PyData.eqvAll, D.eqvs]
  | k, l, x :: xs, y :: ys, h1, h2 => by
    obtain ⟨a1, a2⟩ := Bool.and_eq_true_iff.mp (show (okd k x && okds k xs) = true from h1)
    obtain ⟨b1, b2⟩ := Bool.and_eq_true_iff.mp (show (okd l y && okds l ys) = true from h2)
    simp only [toPs, PyData.eqvAll, D.eqvs]
    rw [eqv_toP (x := x) (y := y) a1 b1, eqvs_toP (xs := xs) (ys := ys) a2 b2]
end
theorem okds_all {k : Nat} : ∀ xs : List D, okds k xs = xs.all (okd k)
  | [] => rfl
  | x :: xs => by
    show (okd k x && okds k xs) = _
    rw [okds_all xs]
    rfl
/-- frozen data behind a value: a cell of data, too -/
def dat? : Va → Sto → Option D
  | .d x, _ => some x
  | .ref n, st => match st[n]? with
    | some (.lst xs) => (ds? xs).map D.lst
    | _ => none
def isSeqD : D → Bool
  | .lst _ => true
  | .tup _ => true
  | _ => false
/-- one and the same list or tuple -/
def sameO : Va → Va → Bool
  | .d (.idn x a), .d (.idn y b) => isSeqD x && decide (a = b)
  | _, _ => false
def oEqN (neg : Bool) : O2 := fun x y st => match dat? (strip x) st, dat? (strip y) st with
  | some a, some b => if okd 60 a = true ∧ okd 60 b = true then .ok (.d (.bl (if neg then !D.eqv a b else D.eqv a b))) st else .bad
  | _, _ => .bad
def oEq : O2 := fun x y st => if sameO x y = true then .ok (.d (.bl true)) st else oEqN false x y st
def oNe : O2 := oEqN true
theorem dat?_ok {k : Nat} {H F : Hp} {ad : List Addr} {st : Sto} {v : V} {x : Va} {a : D} (S : SR G H F ad st) (r : RepV G F ad v x) (e : dat? x st = some a) (h : okd k a = true) : Dp G.K H v (toP a) ∧ (toP a).canLay0 = true ∧ (toP a).depth ≤ k := by
  cases x with
  | d x => cases e; exact okd_dp S.sub h r
  | ref n =>
    obtain ⟨p, hp, rfl⟩ := r
    have e : (match st[n]? with
      | some (.lst xs) => (ds? xs).map D.lst
      | _ => none) = some a := e
    cases z : st[n]? with
    | none => rw [z] at e; cases e
    | some o =>
      rw [z] at e
      cases o with
      | lst xs =>
        have e : (ds? xs).map D.lst = some a := e
        obtain ⟨vs, h1, h2⟩ := S.get hp z
        cases zz : ds? xs with
        | none => rw [zz] at e; cases e
        | some ds =>
          rw [zz] at e
          cases e
          obtain ⟨h3, h4⟩ := Bool.and_eq_true_iff.mp (show (decide (k ≠ 0) && okds (k - 1) ds) = true from h)
          obtain ⟨e1, e2, e3⟩ := okds_dp S.sub (xs := ds) h4 (repVs_ds h2 zz)
          have hk : k ≠ 0 := of_decide_eq_true h3
          exact ⟨.lst (SqL.of h1) e1, e2, by show PyData.depthAll (toPs ds) + 1 ≤ k; omega⟩
      | _ => cases e
theorem shaped_of {d : PyData} {k : Nat} (h1 : d.canLay0 = true) (h2 : d.depth ≤ k) (hk : k ≤ 64) : SeqAt.shaped d = true := by
  unfold SeqAt.shaped
  rw [h1, decide_eq_true (Nat.le_trans h2 hk)]
  rfl
def rEqS (K : PySem.W.Frag) : R2 := fun x y H Q => ∃ a xs, x = .ref a ∧ y = .ref a ∧ (SqL K H a xs ∨ SqT K H a xs) ∧ Q (.bl true) H
theorem op_eqS (hu : X.A.units < cLine) : OpR X (compareOp .Eq) (rEqS X.K) := by
  intro pins s σ H x y v u Q I rx ry h
  obtain ⟨a, xs, rfl, rfl, h, q⟩ := h
  cases rx
  cases ry
  have fin : ∀ b : Bool, b = true → EP X pins σ Q (.bool b) s := fun b e => by subst e; exact ⟨.bl true, H, I, rfl, q⟩
  rcases h with h | h
  · obtain ⟨its, r, p, _⟩ := I.list h
    refine SeqAt.eq_listAt (e := fun _ => true) p.isList p.isList rfl hu (fun j h1 h2 => SeqAt.EqAt.same _) (fin _ (List.all_eq_true.mpr fun _ _ => rfl))
  · obtain ⟨its, r, p, _⟩ := I.tuple h
    refine SeqAt.eq_tupleAt (e := fun _ => true) (show s.heap.IsTuple a its.toArray from p) (show s.heap.IsTuple a its.toArray from p) hu (fun j h1 h2 => SeqAt.EqAt.same _) (fin _ ?_)
    rw [List.all_eq_true.mpr fun _ _ => rfl, beq_self_eq_true]
    rfl
def rEqA (K : PySem.W.Frag) : R2 := fun x y H Q => rEqD K x y H Q ∨ rEqS K x y H Q
theorem op_eq' (hK : X.K = G.K) (hu : X.A.units + 64 < cLine) : OpR X (compareOp .Eq) (rEqA G.K) := by rw [← hK]; exact (op_eqD hu).or (op_eqS (by omega))
theorem op_ne' (hK : X.K = G.K) (hu : X.A.units + 64 < cLine) : OpR X (compareOp .NotEq) (rNeD G.K) := by rw [← hK]; exact op_neD hu
theorem sim_eqN {neg : Bool} {x y : V} {dx dy : Va} {H F : Hp} {ad : List Addr} {st : Sto} {Q : VK} {Wv : Value → Option Addr → Hp → Prop} (rx : RepV G F ad x dx) (ry : RepV G F ad y dy) (S : SR G H F ad st) (h : Po G Wv H F ad (QV G Q) (oEqN neg dx dy st)) :
    ∃ d e, Dp G.K H x d ∧ Dp G.K H y e ∧ SeqAt.shaped d = true ∧ SeqAt.shaped e = true ∧ Q (.bl (if neg then !PyData.eqv d e else PyData.eqv d e)) H := by
  unfold oEqN at h
  cases z1 : dat? (strip dx) st with
  | none => rw [z1] at h; exact h.elim
  | some a =>
    cases z2 : dat? (strip dy) st with
    | none => rw [z1, z2] at h; exact h.elim
    | some b =>
      rw [z1, z2] at h
      have h : Po G Wv H F ad (QV G Q) (if okd 60 a = true ∧ okd 60 b = true then .ok (.d (.bl (if neg then !D.eqv a b else D.eqv a b))) st else .bad) := h
      split at h
      · rename_i hc
        obtain ⟨a1, a2, a3⟩ := dat?_ok S (strip_ok rx) z1 hc.1
        obtain ⟨b1, b2, b3⟩ := dat?_ok S (strip_ok ry) z2 hc.2
        refine ⟨_, _, a1, b1, shaped_of a2 a3 (by decide), shaped_of b2 b3 (by decide), ?_⟩
        rw [eqv_toP hc.1 hc.2]
        exact fin_same S h _ (.bl _)
      · exact h.elim
theorem sim_eq : SimR2 G (rEqA G.K) oEq := by
  intro Wv x y dx dy H F ad st Q rx ry S h
  unfold oEq at h
  split at h
  · rename_i hs
    cases dx with
    | ref n => simp [sameO] at hs
    | d dx => cases dy with
      | ref n => cases dx <;> simp [sameO] at hs
      | d dy => cases rx with
        | @idn a u r1 => cases ry with
          | @idn b w r2 =>
            have hs : (isSeqD u && decide (a = b)) = true := hs
            obtain ⟨h1, h2⟩ := Bool.and_eq_true_iff.mp hs
            have e : a = b := of_decide_eq_true h2
            subst e
            right
            cases r1 with
            | lst q t => exact ⟨a, _, rfl, rfl, .inl (SqL.of (S.sub _ _ q)), fin_same S h _ (.bl _)⟩
            | tup q t => exact ⟨a, _, rfl, rfl, .inr (sqT_same S.sub q), fin_same S h _ (.bl _)⟩
            | _ => cases h1
          | _ => simp [sameO] at hs
        | _ => simp [sameO] at hs
  · exact .inl (sim_eqN (neg := false) rx ry S h)
theorem sim_ne : SimR2 G (rNeD G.K) oNe := fun Wv x y dx dy H F ad st Q rx ry S h => sim_eqN (neg := true) rx ry S h
/-! is None -/
def isNon : Va → Bool
  | .d .non => true
  | _ => false
def mIsN (a : ME) : ME := fun ρ st => (a ρ st).bind fun x st => .ok (.d (.bl (isNon x))) st
def mNotN (a : ME) : ME := fun ρ st => (a ρ st).bind fun x st => .ok (.d (.bl (!isNon x))) st
theorem isNon_ok {F : Hp} {ad : List Addr} {v : V} {x : Va} (r : RepV G F ad v x) : decide (v = .non) = isNon x := by
  cases x with
  | ref n => obtain ⟨a, _, rfl⟩ := r; rfl
  | d x => cases r <;> rfl
theorem de_isN {a : Expr} {j p pos : _} {ma : ME} (ha : DE G W X a ma) : DE G W X (.Compare a [.Is] [.Constant .none j p] pos) (mIsN ma) := by
  obtain ⟨ta, pa, sa⟩ := ha
  refine ⟨_, pe_cmpR op_isN pa pe_non (nomark _), ?_⟩
  intro σ ρ H F ad st Q R S h
  refine simE_bind sa R S h fun x v st1 H1 F1 ad1 _ R1 S1 rv h1 => ⟨rfl, ?_⟩
  rw [isNon_ok rv]
  exact fin_same S1 h1 _ (.bl _)
theorem de_notN {a : Expr} {j p pos : _} {ma : ME} (ha : DE G W X a ma) : DE G W X (.Compare a [.IsNot] [.Constant .none j p] pos) (mNotN ma) := by
  obtain ⟨ta, pa, sa⟩ := ha
  refine ⟨_, pe_cmpR op_notN pa pe_non (nomark _), ?_⟩
  intro σ ρ H F ad st Q R S h
  refine simE_bind sa R S h fun x v st1 H1 F1 ad1 _ R1 S1 rv h1 => ⟨rfl, ?_⟩
  rw [isNon_ok rv]
  exact fin_same S1 h1 _ (.bl _)
theorem dt_isN {a : Expr} {j p pos : _} {ma : ME} (ha : DE G W X a ma) : DT G W X (.Compare a [.Is] [.Constant .none j p] pos) (mTst (mIsN ma)) := by
  obtain ⟨ta, pa, sa⟩ := ha
  refine ⟨_, pt_cmpR op_isN pa pe_non (nomark _), ?_⟩
  refine sim_tst ?_
  intro σ ρ H F ad st Q R S h
  refine simE_bind sa R S h fun x v st1 H1 F1 ad1 _ R1 S1 rv h1 => ⟨rfl, ?_⟩
  rw [isNon_ok rv]
  exact fin_same S1 h1 _ (.bl _)
theorem dt_notN {a : Expr} {j p pos : _} {ma : ME} (ha : DE G W X a ma) : DT G W X (.Compare a [.IsNot] [.Constant .none j p] pos) (mTst (mNotN ma)) := by
  obtain ⟨ta, pa, sa⟩ := ha
  refine ⟨_, pt_cmpR op_notN pa pe_non (nomark _), ?_⟩
  refine sim_tst ?_
  intro σ ρ H F ad st Q R S h
  refine simE_bind sa R S h fun x v st1 H1 F1 ad1 _ R1 S1 rv h1 => ⟨rfl, ?_⟩
  rw [isNon_ok rv]
  exact fin_same S1 h1 _ (.bl _)
/-! x in a list, a tuple of flat things -/
def flatD : D → Bool
  | .non => true
  | .bl _ => true
  | .int _ => true
  | .str _ => true
  | _ => false
def oInN (neg : Bool) : O2 := fun x y st => match x, itemsOf y st with
  | .d a, some ys => (match ds? ys with
    | some ds => if flatD a = true ∧ ds.all flatD = true then .ok (.d (.bl (if neg then !ds.any (fun d => D.eqv d a) else ds.any (fun d => D.eqv d a)))) st else .bad
    | none => .bad)
  | _, _ => .bad
theorem flat_ok {F : Hp} {v : V} {x : D} (r : Rep G F v x) : flatV v = flatD x := by cases r <;> rfl
theorem flats_ok {F : Hp} : ∀ {vs : List V} {ds : List D}, Reps G F vs ds → vs.all flatV = ds.all flatD
  | _, _, .nil => rfl
  | _, _, .cons r t => by rw [List.all_cons, List.all_cons, flat_ok r, flats_ok t]
theorem eqV_ok {F : Hp} {v w : V} {x y : D} (r : Rep G F v x) (r2 : Rep G F w y) (h : flatD x = true) (h2 : flatD y = true) : eqV v w = D.eqv x y := by
  cases r <;> first | (simp [flatD] at h; done) | skip
  all_goals (cases r2 <;> first | (simp [flatD] at h2; done) | simp [eqV, D.eqv])
theorem any_ok {F : Hp} {w : V} {y : D} (r2 : Rep G F w y) (h2 : flatD y = true) : ∀ {vs : List V} {ds : List D}, Reps G F vs ds → ds.all flatD = true → inV w vs = ds.any fun d => D.eqv d y
  | _, _, .nil, _ => rfl
  | _, _, @Reps.cons _ _ v d vs ds r t, h => by
    obtain ⟨h3, h4⟩ := Bool.and_eq_true_iff.mp (show (flatD d && ds.all flatD) = true from h)
    have e := any_ok r2 h2 t h4
    unfold inV at e ⊢
    rw [List.any_cons, List.any_cons, eqV_ok r r2 h3 h2, e]
theorem op_in' (hK : X.K = G.K) : OpR X (compareOp .In) (rIn G.K false) := by rw [← hK]; exact op_in_seq
theorem op_notIn' (hK : X.K = G.K) : OpR X (compareOp .NotIn) (rIn G.K true) := by rw [← hK]; exact op_notIn_seq
theorem sim_inN {neg : Bool} : SimR2 G (rIn G.K neg) (oInN neg) := by
  intro Wv x y dx dy H F ad st Q rx ry S h
  cases dx with
  | ref n => exact h.elim
  | d a =>
    have h : Po G Wv H F ad (QV G Q) (match itemsOf dy st with
      | some ys => (match ds? ys with
        | some ds => if flatD a = true ∧ ds.all flatD = true then .ok (.d (.bl (if neg then !ds.any (fun d => D.eqv d a) else ds.any (fun d => D.eqv d a)))) st else .bad
        | none => .bad)
      | _ => .bad) := by
      unfold oInN at h
      split at h
      · rename_i ys e1 e2
        cases e1
        rw [e2]
        exact h
      · exact h.elim
    cases z : itemsOf dy st with
    | none => rw [z] at h; exact h.elim
    | some ys =>
      rw [z] at h
      have h : Po G Wv H F ad (QV G Q) (match ds? ys with
        | some ds => if flatD a = true ∧ ds.all flatD = true then .ok (.d (.bl (if neg then !ds.any (fun d => D.eqv d a) else ds.any (fun d => D.eqv d a)))) st else .bad
        | none => .bad) := h
      cases zz : ds? ys with
      | none => rw [zz] at h; exact h.elim
      | some ds =>
        rw [zz] at h
        have h : Po G Wv H F ad (QV G Q) (if flatD a = true ∧ ds.all flatD = true then .ok (.d (.bl (if neg then !ds.any (fun d => D.eqv d a) else ds.any (fun d => D.eqv d a)))) st else .bad) := h
        split at h
        · rename_i hc
          obtain ⟨p, vs, rfl, hq, rv⟩ := itemsOf_ok S ry z
          have t := repVs_ds rv zz
          refine ⟨p, vs, rfl, hq, by rw [flat_ok rx]; exact hc.1, by rw [flats_ok t]; exact hc.2, ?_⟩
          rw [any_ok rx hc.1 t hc.2]
          exact fin_same S h _ (.bl _)
        · exact h.elim
def oIn : O2 := oInN false
def oNotIn : O2 := oInN true
end

/-! ### calls of defs -/
section
variable {X : Cx} {CX : CXT} {k : Nat} {f C : Addr} {fd : FuncData} {ps : List Str} {sp : Sp} {dvs : List V} {ds : List Value} {E : L2.St → XK} {x m : Str} {p pos apos : Pos} {e o : Expr} {es : List Expr} {ta : TE} {t : TA}
theorem pe_callSD0 (F : FnOk X.prog X.w X.K X.mg X.base CX k f fd ps sp) (hr : Room k X.A) (hg : Gl X x) (hm : X.mg x = some (.ref f)) (hk : PySem.W.keepIn X.K (.ref f) = true) (hb : Binds X.K fd ps ds) (hd : Vals dvs ds) (hx : ∀ σ, PassesAt CX X σ (E σ))
    (hdb : (x == ("__debug__" : Str)) = false := by decide) : PE X (.Call (.Name x p) [] [] pos) (tCallSD sp dvs E tNil) := by
  refine ⟨fun pins s σ H Q I h => ?_⟩
  refine wpAny_Call_Name_kw (ld_glob I hg hm ?_ hdb)
  exact PySem.W.callWith_K0 I.kIn hk (run_fnSD (us := []) F hr hb hd (hx σ) I .nil h)
def tMethS (C : Addr) (m : Str) (sp : Sp) (dvs : List V) (E : L2.St → XK) (ta : TE) (t : TA) : TE := fun σ H Q => ta σ H fun x H1 => ∃ a dx fs, x = .ref a ∧ H1 a = some (.ins C dx fs) ∧ fs.lookup m = none ∧
  t σ H1 fun vs H2 => sp (x :: (vs ++ dvs)) H2 Q (E σ)
theorem pe_methSD {pl : Sem Bool} (he : PE X o ta) (c : Cls X.K C) (hm : Meth X.K C m f) (F : FnOk X.prog X.w X.K X.mg X.base CX k f fd ps sp) (hr : Room k X.A) (hb : Binds X.K fd ps ds) (hd : Vals dvs ds) (hx : ∀ σ, PassesAt CX X σ (E σ)) (ha : PA X (e :: es) t)
    (hst : starEach (e :: es) X.env = (false, eval e X.env) :: starEach es X.env := by rfl) (hpl : (backTo pos (starEach es X.env)).any (·.1) = false := by rfl)
    (ht : eval (.Call (.Attribute o m apos) (e :: es) [] pos) X.env = (do
      let ov ← eval o X.env
      standAt apos.atName
      let (f, first) ← holding [ov] (getMethod ov m pl)
      callWith pos f first (backTo pos (starEach (e :: es) X.env)) (backToKw pos (keywordEach [] X.env))) := by rfl) :
    PE X (.Call (.Attribute o m apos) (e :: es) [] pos) (tMethS C m sp dvs E ta t) := by
  refine ⟨fun pins s σ H Q I h => ?_⟩
  refine PySem.W.methodCall_KW (pl := pl) (thn (he.run pins s σ H _ I h) fun u s1 ⟨x, H1, I1, rx, a, dx, fs, ex, ea, l, q⟩ => ?_) ht
  subst ex
  obtain rfl : u = Value.ref a := rx
  refine getmeth_ok I1 ea c hm l ?_
  refine PySem.W.callWith_K (first := [.ref a]) (h₀ := X.base) I.ok.mod.kin hm.kp (thn (ha.run pos pins s1 σ H1 _ I1 q) fun us s2 ⟨vs, H2, I2, r, q2⟩ => ⟨I2.kIn, ?_⟩) hst hpl
  exact run_fnSD (us := .ref a :: us) (vs := .ref a :: vs) F hr hb hd (hx σ) I2 (.cons rfl r) q2
theorem pe_methSD0 {pl : Sem Bool} (he : PE X o ta) (c : Cls X.K C) (hm : Meth X.K C m f) (F : FnOk X.prog X.w X.K X.mg X.base CX k f fd ps sp) (hr : Room k X.A) (hb : Binds X.K fd ps ds) (hd : Vals dvs ds) (hx : ∀ σ, PassesAt CX X σ (E σ))
    (ht : eval (.Call (.Attribute o m apos) [] [] pos) X.env = (do
      let ov ← eval o X.env
      standAt apos.atName
      let (f, first) ← holding [ov] (getMethod ov m pl)
      callWith pos f first (backTo pos (starEach [] X.env)) (backToKw pos (keywordEach [] X.env))) := by rfl) :
    PE X (.Call (.Attribute o m apos) [] [] pos) (tMethS C m sp dvs E ta tNil) := by
  refine ⟨fun pins s σ H Q I h => ?_⟩
  refine PySem.W.methodCall_KW (pl := pl) (thn (he.run pins s σ H _ I h) fun u s1 ⟨x, H1, I1, rx, a, dx, fs, ex, ea, l, q⟩ => ?_) ht
  subst ex
  obtain rfl : u = Value.ref a := rx
  refine getmeth_ok I1 ea c hm l ?_
  exact PySem.W.callWith_K0 (first := [.ref a]) I1.kIn hm.kp (run_fnSD (us := [.ref a]) (vs := [.ref a]) F hr hb hd (hx σ) I1 (.cons rfl .nil) q)
def tMakeS (C : Addr) (sp : Sp) (dvs : List V) (E : L2.St → XK) (t : TA) : TE := fun σ H Q => t σ H fun vs H1 => ∀ x dx, H1 x = none → H1 dx = none → dx ≠ x →
  sp (.ref x :: (vs ++ dvs)) (upd (upd H1 dx (.own x)) x (.ins C dx [])) (fun v H2 => v = .non ∧ Q (.ref x) H2) (E σ)
theorem run_makeS {pins : List (Addr × Obj)} {σ : L2.St} {H : Hp} {s : Shared} {Q : VK} {us : List Value} {vs : List V} (M : Mk X.K C f) (F : FnOk X.prog X.w X.K X.mg X.base CX k f fd ps sp) (hr : Room (k + 1) X.A) (hb : Binds X.K fd ps ds) (hd : Vals dvs ds)
    (hx : PassesAt CX X σ (E σ)) (I : Inv X pins σ H s) (r : Vals vs us)
    (h : ∀ x dx, H x = none → H dx = none → dx ≠ x → sp (.ref x :: (vs ++ dvs)) (upd (upd H dx (.own x)) x (.ins C dx [])) (fun v H2 => v = .non ∧ Q (.ref x) H2) (E σ)) :
    wpAny (model X.prog X.w) X.A (call (.ref C) us) (EP X pins σ Q) X.xe s := by
  have hq := h (s.heap.objs.size + 1) s.heap.objs.size (I.hok.fresh (Nat.le_succ _)) (I.hok.fresh (Nat.le_refl _)) (Nat.ne_of_lt (Nat.lt_succ_self _))
  have I2 := Inv.made (C := C) I
  have r2 : Vals (V.ref (s.heap.objs.size + 1) :: (vs ++ dvs)) (Value.ref (s.heap.objs.size + 1) :: (us ++ ds)) := .cons rfl (r.append hd)
  have hl : (Value.ref (s.heap.objs.size + 1) :: us ++ ds).length = ps.length := by
    have e := r2.length
    rw [F.len _ _ _ _ hq] at e
    exact e.symm
  refine wpAny_call (make_map (f := f) I.kIn M.makes M.init (beq_iff_eq.mp M.fn) (codeAny_mono (F.run _ X.stack _ _ ⟨Value.ref (s.heap.objs.size + 1) :: us, []⟩ (Value.ref (s.heap.objs.size + 1) :: (us ++ ds)) _ _ (E σ) (hr.make C us [])
    (I2.env0.make C us []) (hb _ (Value.ref (s.heap.objs.size + 1) :: us) I2.kIn hl) r2 hq) fun r s' hq' => ?_))
  cases r with
  | error e => exact hx pins _ _ e s' I2 hq'
  | ok fl =>
    cases fl with
    | ret u =>
      obtain ⟨v, H', I3, rv, ev, q3⟩ := I2.after hq'
      subst ev
      exact ⟨rv, ⟨V.ref (s.heap.objs.size + 1), H', I3, rfl, q3⟩⟩
    | next => exact False.elim hq'
    | brk => exact False.elim hq'
    | cont => exact False.elim hq'
theorem pe_makeSD (M : Mk X.K C f) (F : FnOk X.prog X.w X.K X.mg X.base CX k f fd ps sp) (hr : Room (k + 1) X.A) (hg : Gl X x) (hm : X.mg x = some (.ref C)) (hb : Binds X.K fd ps ds) (hd : Vals dvs ds) (hx : ∀ σ, PassesAt CX X σ (E σ))
    (ha : PA X (e :: es) t) (hdb : (x == ("__debug__" : Str)) = false := by decide) (he : starEach (e :: es) X.env = (false, eval e X.env) :: starEach es X.env := by rfl) (hpl : (backTo pos (starEach es X.env)).any (·.1) = false := by rfl) :
    PE X (.Call (.Name x p) (e :: es) [] pos) (tMakeS C sp dvs E t) := by
  refine ⟨fun pins s σ H Q I h => ?_⟩
  refine wpAny_Call_Name_kw (ld_glob I hg hm ?_ hdb)
  refine PySem.W.callWith_K (h₀ := X.base) I.ok.mod.kin M.kp (thn (ha.run pos pins s σ H _ I h) fun us s1 ⟨vs, H1, I1, r, q⟩ => ⟨I1.kIn, ?_⟩) he hpl
  exact run_makeS M F hr hb hd (hx σ) I1 r q
theorem pe_makeSD0 (M : Mk X.K C f) (F : FnOk X.prog X.w X.K X.mg X.base CX k f fd ps sp) (hr : Room (k + 1) X.A) (hg : Gl X x) (hm : X.mg x = some (.ref C)) (hb : Binds X.K fd ps ds) (hd : Vals dvs ds) (hx : ∀ σ, PassesAt CX X σ (E σ))
    (hdb : (x == ("__debug__" : Str)) = false := by decide) : PE X (.Call (.Name x p) [] [] pos) (tMakeS C sp dvs E tNil) := by
  refine ⟨fun pins s σ H Q I h => ?_⟩
  refine wpAny_Call_Name_kw (ld_glob I hg hm ?_ hdb)
  exact PySem.W.callWith_K0 I.kIn M.kp (run_makeS (us := []) M F hr hb hd (hx σ) I .nil h)
end
section
variable {G : Ga} {W : L2.WX} {X : Cx}
/-- the promise of a def by its mirror -/
def spM (G : Ga) (m : MF) : Sp := fun vs H Q E => ∃ F ad st ds, SR G H F ad st ∧ RepVs G F ad vs ds ∧ Po G E H F ad (QV G Q) (m ds st)
def mFun (n ns : Nat) (b : MS) : MF := fun ds st => if ds.length = n then (match b (ds.map some ++ List.replicate (ns - n) none) st with
  | .nx _ st => .ok (.d .non) st
  | .rt v st => .ok v st
  | .er c fs _ st => .er c fs st
  | _ => .bad) else .bad
theorem spM_len {n ns : Nat} {b : MS} {vs : List V} {H : Hp} {Q : VK} {E : XK} (h : spM G (mFun n ns b) vs H Q E) : vs.length = n := by
  obtain ⟨F, ad, st, ds, _, r, h⟩ := h
  unfold mFun at h
  split at h
  · rename_i e
    rw [Paired.length r]
    exact e
  · exact h.elim
theorem start_rel {F : Hp} {ad : List Addr} {N : List Str} {vs : List V} {ds : List Va} {n : Nat} (hj : ∀ F ad σ, G.jv F ad σ) (r : RepVs G F ad vs ds) (hn : ds.length = n) : RelE G F ad (L2.start N vs) (ds.map some ++ List.replicate (N.length - n) none) := by
  have hl := Paired.length r
  refine ⟨by unfold L2.start; simp [hl, hn], fun i d e => ?_, hj _ _ _⟩
  by_cases hi : i < ds.length
  · rw [List.getElem?_append_left (by rw [List.length_map]; exact hi), List.getElem?_map] at e
    cases z : ds[i]? with
    | none => rw [z] at e; cases e
    | some u =>
      rw [z] at e
      have : u = d := by simpa using e
      subst this
      obtain ⟨v, h1, h2⟩ := Paired.getR r i u z
      refine ⟨v, ?_, h2⟩
      unfold L2.start
      rw [List.getElem?_append_left (by rw [List.length_map, hl]; exact hi), List.getElem?_map, h1]
      rfl
  · rw [List.getElem?_append_right (by rw [List.length_map]; omega)] at e
    have := List.mem_of_getElem? e
    rw [List.mem_replicate] at this
    cases this.2
/-- THE RULE for a def -/
theorem fn_m {P : Program} {w : World} {mg : Str → Option Value} {base : Heap} {x qual : Str} {params : Arguments} {body : List Stmt} {scope : Scope} {dvs : List V} {kws : List (Str × V)} {f : Addr} {fd : FuncData} {N ps : List Str} {k n : Nat} {b : MS} {K : PySem.W.Frag} (F : FunD K x qual params body scope dvs kws f fd) (S : FnScope N ps scope) (hn : ps.length = n) (hj : ∀ F ad σ, G.jv F ad σ)
    (hb : ∀ (cdv : Value) (A : Around) (outer : List Env) (s : Shared) (H : Hp) (E : XK), Room k (A.deeper (PyProof.Rows.envOfC qual scope s.heap.objs.size f cdv)) →
      DSs G (fun cls d _ H' => E cls d H') (cxOf (L2.CX P w) P w K mg base N qual scope f cdv A outer s H E) body b) : FnOk P w K mg base (L2.CX P w) (k + 1) f fd ps (spM G (mFun n N.length b)) := by
  refine F.ok S (fun vs H Q E h => by rw [hn]; exact spM_len h) fun cdv A outer s H vs Q E hr h => ?_
  obtain ⟨t, p, z⟩ := hb cdv A outer s H E hr
  refine ⟨t, p, ?_⟩
  obtain ⟨F0, ad, st, ds, S0, r, h⟩ := h
  unfold mFun at h
  split at h
  · rename_i hl
    refine z _ _ H F0 ad st _ (start_rel hj r hl) S0 ?_
    revert h
    generalize b (ds.map some ++ List.replicate (N.length - n) none) st = o
    intro h
    cases o with
    | nx ρ st1 => exact fun H' F' ad' σ' e S' R' => h H' F' ad' e S' _ .non
    | rt v st1 => exact fun H' F' ad' v' e S' R' => h H' F' ad' e S' _ R'
    | er c fs ρ st1 => exact fun H' F' ad' σ' cls d e S' R' z => h H' F' ad' cls d e S' z
    | bk ρ st1 => exact h.elim
    | ct ρ st1 => exact h.elim
    | bad => exact h.elim
  · exact h.elim
/-! what leaves a call of a def that knows nothing of our cells -/
def mapO {α β : Type} (f : α → Option β) : List α → Option (List β)
  | [] => some []
  | x :: xs => match f x, mapO f xs with
    | some y, some ys => some (y :: ys)
    | _, _ => none
def rsv (st : Sto) : Nat → Va → Option D
  | _, .d x => some x
  | 0, .ref _ => none
  | k + 1, .ref n => match st[n]? with
    | some (.lst xs) => (mapO (rsv st k) xs).map D.lst
    | some (.obj c fs) => (mapO (fun p => (rsv st k p.2).map fun y => (p.1, y)) fs).map (D.obj c)
    | _ => none
@[simp] theorem rsv_d {st : Sto} {k : Nat} {x : D} : rsv st k (.d x) = some x := by cases k <;> rfl
def rsvF (st : Sto) (k : Nat) (fs : List (String × Va)) : Option (List (String × Va)) := mapO (fun p => (rsv st k p.2).map fun y => (p.1, Va.d y)) fs
/-- cells become frozen -/
def frzA (H F : Hp) (ad : List Addr) : Hp := fun b => if b ∈ ad then H b else F b
theorem mapO_ok {α β γ : Type} {f : α → Option β} {R : γ → α → Prop} {R' : γ → β → Prop} (h : ∀ c a b, R c a → f a = some b → R' c b) : ∀ {cs : List γ} {xs : List α} {ys : List β}, Paired R cs xs → mapO f xs = some ys → Paired R' cs ys
  | _, _, _, .nil, e => by cases e; exact .nil
  | _, _, ys, @Paired.cons _ _ _ c a _ xs r t, e => by
    have e : (match f a, mapO f xs with
      | some y, some ys => some (y :: ys)
      | _, _ => none) = some ys := e
    cases z : f a with
    | none => rw [z] at e; cases e
    | some y =>
      cases zz : mapO f xs with
      | none => rw [z, zz] at e; cases e
      | some zs =>
        rw [z, zz] at e
        cases e
        exact .cons (h _ _ _ r z) (mapO_ok h t zz)
theorem paired_reps {F : Hp} : ∀ {vs : List V} {ds : List D}, Paired (Rep G F) vs ds → Reps G F vs ds
  | _, _, .nil => .nil
  | _, _, .cons r t => .cons r (paired_reps t)
theorem paired_repf {F : Hp} : ∀ {vs : List (Str × V)} {ds : List (String × D)}, Paired (fun p q => p.1 = Str.ofString q.1 ∧ Rep G F p.2 q.2) vs ds → Repf G F vs ds
  | _, _, .nil => .nil
  | _, _, @Paired.cons _ _ _ (_, _) (_, _) _ _ ⟨e, r⟩ t => by
    cases e
    exact .cons r (paired_repf t)
theorem frzA_same {H F : Hp} {ad : List Addr} {st : Sto} (S : SR G H F ad st) : Same F (frzA H F ad) := fun b o h => by
  unfold frzA
  rw [if_neg (fun z => by rw [S.dis b z] at h; cases h)]
  exact h
theorem frzA_sub {H F : Hp} {ad : List Addr} {st : Sto} (S : SR G H F ad st) : Same (frzA H F ad) H := fun b o h => by
  unfold frzA at h
  split at h
  · exact h
  · exact S.sub b o h
theorem rsv_ok {H F : Hp} {ad : List Addr} {st : Sto} (S : SR G H F ad st) : ∀ {k : Nat} {v : V} {x : Va} {y : D}, RepV G F ad v x → rsv st k x = some y → Rep G (frzA H F ad) v y
  | k, v, .d x, y, r, e => by
    rw [rsv_d] at e
    cases e
    exact Rep.same (frzA_same S) r
  | 0, v, .ref n, y, r, e => by cases e
  | k + 1, v, .ref n, y, r, e => by
    obtain ⟨a, ha, rfl⟩ := r
    have e : (match st[n]? with
      | some (.lst xs) => (mapO (rsv st k) xs).map D.lst
      | some (.obj c fs) => (mapO (fun p => (rsv st k p.2).map fun y => (p.1, y)) fs).map (D.obj c)
      | _ => none) = some y := e
    have hm : frzA H F ad a = H a := if_pos (List.mem_of_getElem? ha)
    cases z : st[n]? with
    | none => rw [z] at e; cases e
    | some o =>
      rw [z] at e
      cases o with
      | lst xs =>
        have e : (mapO (rsv st k) xs).map D.lst = some y := e
        obtain ⟨vs, h1, h2⟩ := S.get ha z
        cases zz : mapO (rsv st k) xs with
        | none => rw [zz] at e; cases e
        | some ys =>
          rw [zz] at e
          cases e
          exact .lst (by rw [hm]; exact h1) (paired_reps (mapO_ok (f := rsv st k) (R' := Rep G (frzA H F ad)) (fun c a b r e => rsv_ok S r e) h2 zz))
      | obj c fs =>
        have e : (mapO (fun p => (rsv st k p.2).map fun y => (p.1, y)) fs).map (D.obj c) = some y := e
        obtain ⟨hc, dx, vfs, h1, h2⟩ := S.get ha z
        cases zz : mapO (fun p => (rsv st k p.2).map fun y => (p.1, y)) fs with
        | none => rw [zz] at e; cases e
        | some ys =>
          rw [zz] at e
          cases e
          refine .obj hc (by rw [hm]; exact h1) (paired_repf (mapO_ok (fun c a b r e => ?_) h2 zz))
          cases z3 : rsv st k a.2 with
          | none => rw [z3] at e; cases e
          | some y =>
            rw [z3] at e
            cases e
            exact ⟨r.1, rsv_ok S r.2 z3⟩
      | dct _ => cases e
/-- the caller's things behind such a call -/
theorem SR.behind {H F H1 F1 : Hp} {ad ad1 : List Addr} {st st1 : Sto} (S : SR G H F ad st) (E : Ext H F [] H1 F1 ad1) (S1 : SR G H1 F1 ad1 st1) : SR G H1 (frzA H1 F1 ad1) ad st ∧ Ext H F ad H1 (frzA H1 F1 ad1) ad := by
  have kp : ∀ b o, H b = some o → H1 b = some o := fun b o h => E.kp b o (by simp) h
  have nin : ∀ a ∈ ad, a ∉ ad1 := fun a h z => by
    obtain ⟨u, hu⟩ := S.there h
    rcases E.na a z with z | z
    · simp at z
    · rw [hu] at z; cases z
  have dis : ∀ a ∈ ad, frzA H1 F1 ad1 a = none := fun a h => by
    unfold frzA
    rw [if_neg (nin a h)]
    cases z : F1 a with
    | none => rfl
    | some o =>
      obtain ⟨u, hu⟩ := S.there h
      rcases E.nw a o z with z | z
      · rw [S.dis a h] at z; cases z
      · rw [hu] at z; cases z
  have E2 : Ext H F ad H1 (frzA H1 F1 ad1) ad := by
    refine ⟨⟨[], (List.append_nil _).symm⟩, E.fz.trans (frzA_same S1), fun b o _ h => kp b o h, E.dm, fun b o h => ?_, fun b h => .inl h⟩
    unfold frzA at h
    split at h
    · rename_i hb
      rcases E.na b hb with z | z
      · simp at z
      · exact .inr z
    · exact E.nw b o h
  refine ⟨⟨frzA_sub S1, S.len, S.nd, dis, fun n a o h ho => ?_⟩, E2⟩
  have hz := S.ob n a o h ho
  obtain ⟨u, hu⟩ := hz.there
  exact hz.mono E2 (by rw [hu]; exact kp a u hu)
def pureF (f : MF) : MF := fun ds st => match ds? ds with
  | some _ => (match f ds [] with
    | .ok v st1 => (match rsv st1 (st1.length + 1) v with
      | some x => .ok (.d x) st
      | none => .bad)
    | .er c fs st1 => (match rsvF st1 (st1.length + 1) fs with
      | some gs => .er c gs st
      | none => .bad)
    | .bad => .bad)
  | none => .bad
theorem err_behind {H F : Hp} {ad ad0 : List Addr} {st : Sto} (S : SR G H F ad st) {k : Nat} {c : String} {fs gs : List (String × Va)} {cls : Value} {d : Option Addr} (e : rsvF st k fs = some gs) (h : ErrR G F ad c fs cls d) : ErrR G (frzA H F ad) ad0 c gs cls d := by
  obtain ⟨h0, h1, h2⟩ := h
  refine ⟨h0, h1, ?_⟩
  rcases h2 with ⟨rfl, rfl⟩ | ⟨dx, vfs, rfl, hx, r⟩
  · cases e
    exact .inl ⟨rfl, rfl⟩
  · refine .inr ⟨dx, vfs, rfl, frzA_same S _ _ hx, mapO_ok (fun c a b r e => ?_) r e⟩
    cases z3 : rsv st k a.2 with
    | none => rw [z3] at e; cases e
    | some y =>
      rw [z3] at e
      cases e
      exact ⟨r.1, rsv_ok S r.2 z3⟩
theorem SR.none_ {H F : Hp} {ad : List Addr} {st : Sto} (S : SR G H F ad st) : SR G H F [] [] := ⟨S.sub, rfl, List.nodup_nil, fun _ h => (by simp at h), fun n a o h _ => (by simp at h)⟩
theorem spM_pure {f : MF} {H F : Hp} {ad : List Addr} {st : Sto} {vs : List V} {ds : List Va} {Q : VK} {E : XK} (S : SR G H F ad st) (r : RepVs G F ad vs ds) (h : Po G E H F ad (QV G Q) (pureF f ds st)) : spM G f vs H Q E := by
  unfold pureF at h
  cases z : ds? ds with
  | none => rw [z] at h; exact h.elim
  | some es =>
    rw [z] at h
    refine ⟨F, [], [], ds, S.none_, ?_, ?_⟩
    · rw [ds?_ok z] at r ⊢
      exact (Reps.of r).va
    · revert h
      generalize f ds [] = o
      intro h
      cases o with
      | bad => exact h
      | ok v st1 =>
        intro H1 F1 ad1 E1 S1 w rw
        have h : Po G E H F ad (QV G Q) (match rsv st1 (st1.length + 1) v with
          | some x => .ok (.d x) st
          | none => .bad) := h
        cases zz : rsv st1 (st1.length + 1) v with
        | none => rw [zz] at h; exact h.elim
        | some x =>
          rw [zz] at h
          obtain ⟨S2, E2⟩ := S.behind E1 S1
          exact h _ _ _ E2 S2 w (rsv_ok S1 rw zz)
      | er c fs st1 =>
        intro H1 F1 ad1 cls d E1 S1 er
        have h : Po G E H F ad (QV G Q) (match rsvF st1 (st1.length + 1) fs with
          | some gs => .er c gs st
          | none => .bad) := h
        cases zz : rsvF st1 (st1.length + 1) fs with
        | none => rw [zz] at h; exact h.elim
        | some gs =>
          rw [zz] at h
          obtain ⟨S2, E2⟩ := S.behind E1 S1
          exact h _ _ _ cls d E2 S2 (err_behind S1 zz er)
def mCall (f : MF) (m : MA) : ME := fun ρ st => (m ρ st).bind f
abbrev mPure (f : MF) (m : MA) : ME := mCall (pureF f) m
/-- defaults: what stands for them -/
def DflR (G : Ga) (dvs : List V) (es : List D) : Prop := ∀ F, Reps G F dvs es
theorem dfl_nil : DflR G [] [] := fun _ => .nil
theorem sim_call {f : MF} {g : MF} {t : TA} {m : MA} {dvs : List V} {es : List D} (hd : DflR G dvs es) (hg : (∀ ds st, g ds st = f (ds ++ es.map Va.d) st) ∨ (∀ ds st, g ds st = pureF f (ds ++ es.map Va.d) st)) (s : SimA G W t m) : SimE G W (tCallSD (spM G f) dvs (WE W) t) (mCall g m) := by
  intro σ ρ H F ad st Q R S h
  refine simA_bind s R S h fun xs vs st1 H1 F1 ad1 _ R1 S1 rvs h1 => ?_
  have rv : RepVs G F1 ad1 (vs ++ dvs) (xs ++ es.map Va.d) := Paired.append rvs (hd F1).va
  rcases hg with hg | hg
  · rw [hg] at h1
    exact ⟨F1, ad1, st1, _, S1, rv, h1⟩
  · rw [hg] at h1
    exact spM_pure S1 rv h1
/-- with defaults put behind -/
def withD (es : List D) (f : MF) : MF := fun ds st => f (ds ++ es.map Va.d) st
section
variable {k : Nat} {fa : Addr} {fd : FuncData} {ps : List Str} {f : MF} {dvs : List V} {ds : List Value} {es : List D} {x : Str} {e : Expr} {ee : List Expr} {p pos : Pos} {m : MA}
theorem de_call (F : FnOk X.prog X.w X.K X.mg X.base (L2.CX X.prog X.w) k fa fd ps (spM G f)) (hr : Room k X.A) (hg : Gl X x) (hm : X.mg x = some (.ref fa)) (hk : PySem.W.keepIn X.K (.ref fa) = true) (hb : Binds X.K fd ps []) (tk : Takes X W)
    (ha : DA G W X (e :: ee) m) (hdb : (x == ("__debug__" : Str)) = false := by decide) (he : starEach (e :: ee) X.env = (false, eval e X.env) :: starEach ee X.env := by rfl) (hpl : (backTo pos (starEach ee X.env)).any (·.1) = false := by rfl) : DE G W X (.Call (.Name x p) (e :: ee) [] pos) (mCall f m) := by
  obtain ⟨t, pt, st⟩ := ha
  exact ⟨_, pe_callSD F hr hg hm hk hb .nil (passAt tk) pt hdb he hpl, sim_call dfl_nil (.inl fun ds st => by rw [List.map_nil, List.append_nil]) st⟩
theorem de_pcall (F : FnOk X.prog X.w X.K X.mg X.base (L2.CX X.prog X.w) k fa fd ps (spM G f)) (hr : Room k X.A) (hg : Gl X x) (hm : X.mg x = some (.ref fa)) (hk : PySem.W.keepIn X.K (.ref fa) = true) (hb : Binds X.K fd ps []) (tk : Takes X W)
    (ha : DA G W X (e :: ee) m) (hdb : (x == ("__debug__" : Str)) = false := by decide) (he : starEach (e :: ee) X.env = (false, eval e X.env) :: starEach ee X.env := by rfl) (hpl : (backTo pos (starEach ee X.env)).any (·.1) = false := by rfl) : DE G W X (.Call (.Name x p) (e :: ee) [] pos) (mPure f m) := by
  obtain ⟨t, pt, st⟩ := ha
  exact ⟨_, pe_callSD F hr hg hm hk hb .nil (passAt tk) pt hdb he hpl, sim_call dfl_nil (.inr fun ds st => by rw [List.map_nil, List.append_nil]) st⟩
theorem de_call0 (F : FnOk X.prog X.w X.K X.mg X.base (L2.CX X.prog X.w) k fa fd ps (spM G f)) (hr : Room k X.A) (hg : Gl X x) (hm : X.mg x = some (.ref fa)) (hk : PySem.W.keepIn X.K (.ref fa) = true) (hb : Binds X.K fd ps []) (tk : Takes X W) (hdb : (x == ("__debug__" : Str)) = false := by decide) : DE G W X (.Call (.Name x p) [] [] pos) (mCall f mNil) :=
  ⟨_, pe_callSD0 F hr hg hm hk hb .nil (passAt tk) hdb, fun σ ρ H F ad st Q R S h => ⟨F, ad, st, [], S, .nil, h⟩⟩
end
/-! fields -/
def getF (f : String) : Va → Sto → Option Va
  | .d (.obj _ fs), _ => (fs.lookup f).map Va.d
  | .ref n, st => match st[n]? with
    | some (.obj _ fs) => fs.lookup f
    | _ => none
  | _, _ => none
def mFld (f : String) (a : ME) : ME := fun ρ st => (a ρ st).bind fun x st => match getF f x st with
  | some v => .ok v st
  | none => .bad
theorem lookup_f {F : Hp} {ad : List Addr} {f : String} : ∀ {vfs : List (Str × V)} {fs : List (String × Va)} {x : Va}, RepFs G F ad vfs fs → fs.lookup f = some x → ∃ v, vfs.lookup (Str.ofString f) = some v ∧ RepV G F ad v x
  | _, _, x, .nil, e => by cases e
  | _, _, x, @Paired.cons _ _ _ (g, v) (h, y) vfs fs ⟨e1, r⟩ t, e => by
    have e1 : g = Str.ofString h := e1
    subst e1
    rw [List.lookup_cons] at e ⊢
    by_cases hf : f = h
    · subst hf
      rw [beq_self_eq_true] at e ⊢
      have : y = x := by simpa using e
      subst this
      exact ⟨v, rfl, r⟩
    · have n1 : (f == h) = false := by simpa using hf
      have n2 : (Str.ofString f == Str.ofString h) = false := by simpa using fun z => hf (ofS_inj z)
      rw [n1] at e
      rw [n2]
      exact lookup_f t e
theorem lookup_none {F : Hp} {ad : List Addr} {f : String} : ∀ {vfs : List (Str × V)} {fs : List (String × Va)}, RepFs G F ad vfs fs → fs.lookup f = none → vfs.lookup (Str.ofString f) = none
  | _, _, .nil, e => rfl
  | _, _, @Paired.cons _ _ _ (g, v) (h, y) vfs fs ⟨e1, r⟩ t, e => by
    have e1 : g = Str.ofString h := e1
    subst e1
    rw [List.lookup_cons] at e ⊢
    by_cases hf : f = h
    · subst hf
      rw [beq_self_eq_true] at e
      cases e
    · have n1 : (f == h) = false := by simpa using hf
      have n2 : (Str.ofString f == Str.ofString h) = false := by simpa using fun z => hf (ofS_inj z)
      rw [n1] at e
      rw [n2]
      exact lookup_none t e
theorem lookup_d {f : String} : ∀ {fs : List (String × D)}, (fs.map fun p => (p.1, Va.d p.2)).lookup f = (fs.lookup f).map Va.d
  | [] => rfl
  | (g, x) :: fs => by
    rw [List.map_cons, List.lookup_cons, List.lookup_cons]
    cases z : f == g with
    | true => rfl
    | false => exact lookup_d
/-- an instance of a known class -/
def objOf : Va → Sto → Option (String × List (String × Va))
  | .d (.obj c fs), _ => some (c, fs.map fun p => (p.1, Va.d p.2))
  | .ref n, st => match st[n]? with
    | some (.obj c fs) => some (c, fs)
    | _ => none
  | _, _ => none
theorem objOf_ok {H F : Hp} {ad : List Addr} {st : Sto} {v : V} {x : Va} {c : String} {fs : List (String × Va)} (S : SR G H F ad st) (r : RepV G F ad v x) (e : objOf x st = some (c, fs)) : ∃ a dx vfs, v = .ref a ∧ c ∈ G.cs ∧ H a = some (.ins (G.ca c) dx vfs) ∧ RepFs G F ad vfs fs := by
  cases x with
  | ref n =>
    obtain ⟨a, ha, rfl⟩ := r
    have e : (match st[n]? with
      | some (.obj c fs) => some (c, fs)
      | _ => none) = some (c, fs) := e
    cases z : st[n]? with
    | none => rw [z] at e; cases e
    | some o =>
      rw [z] at e
      cases o with
      | obj c' fs' =>
        obtain ⟨hc, dx, vfs, h1, h2⟩ := S.get ha z
        cases e
        exact ⟨a, dx, vfs, rfl, hc, h1, h2⟩
      | _ => cases e
  | d x =>
    cases r with
    | obj hc h t => cases e; exact ⟨_, _, _, rfl, hc, S.sub _ _ h, t.va⟩
    | _ => cases e
theorem getF_obj {f : String} {x y : Va} {st : Sto} (h : getF f x st = some y) : ∃ c fs, objOf x st = some (c, fs) ∧ fs.lookup f = some y := by
  cases x with
  | ref n =>
    have h : (match st[n]? with
      | some (.obj _ fs) => fs.lookup f
      | _ => none) = some y := h
    cases z : st[n]? with
    | none => rw [z] at h; cases h
    | some o =>
      rw [z] at h
      cases o with
      | obj c fs => exact ⟨c, fs, (by show (match st[n]? with | some (.obj c fs) => some (c, fs) | _ => none) = _; rw [z]), h⟩
      | _ => cases h
  | d x => cases x with
    | obj c fs => exact ⟨c, _, rfl, by rw [lookup_d]; exact h⟩
    | _ => cases h
/-- no class of ours has the name -/
def NoAt (G : Ga) (f : String) : Prop := ∀ c ∈ G.cs, NoAttr G.K (G.ca c) (Str.ofString f)
theorem de_fld {e : Expr} {f : String} {pos : Pos} {m : ME} (hK : X.K = G.K) (nf : NoAt G f) (he : DE G W X e m) (hb : attributeBase e (Str.ofString f) X.env (eval e X.env) = eval e X.env) : DE G W X (.Attribute e (Str.ofString f) pos) (mFld f m) := by
  obtain ⟨t, p, s⟩ := he
  refine ⟨_, pe_fld p hb, ?_⟩
  intro σ ρ H F ad st Q R S h
  refine simE_bind s R S h fun x v st1 H1 F1 ad1 _ R1 S1 rv h1 => ?_
  cases z : getF f x st1 with
  | none => rw [z] at h1; exact h1.elim
  | some y =>
    rw [z] at h1
    obtain ⟨c, fs, e1, e2⟩ := getF_obj z
    obtain ⟨a, dx, vfs, rfl, hc, h2, h3⟩ := objOf_ok S1 rv e1
    obtain ⟨w, h4, h5⟩ := lookup_f h3 e2
    exact ⟨a, _, dx, vfs, w, rfl, h2, by rw [hK]; exact (G.cok c hc).cl, by rw [hK]; exact nf c hc, h4, fin_same S1 h1 _ h5⟩
/-! methods -/
def mMeth (c mth : String) (f : MF) (o : ME) (m : MA) : ME := fun ρ st => (o ρ st).bind fun x st => match objOf x st with
  | some (c', fs) => if c' = c ∧ fs.lookup mth = none then (m ρ st).bind fun xs st => f (x :: xs) st else .bad
  | none => .bad
theorem sim_meth {f g : MF} {t : TA} {m : MA} {ta : TE} {mo : ME} {c mth : String} {dvs : List V} {es : List D} (hd : DflR G dvs es) (hg : (∀ ds st, g ds st = f (ds ++ es.map Va.d) st) ∨ (∀ ds st, g ds st = pureF f (ds ++ es.map Va.d) st)) (so : SimE G W ta mo) (s : SimA G W t m) :
    SimE G W (tMethS (G.ca c) (Str.ofString mth) (spM G f) dvs (WE W) ta t) (mMeth c mth g mo m) := by
  intro σ ρ H F ad st Q R S h
  refine simE_bind so R S h fun x v st1 H1 F1 ad1 _ R1 S1 rv h1 => ?_
  cases z : objOf x st1 with
  | none => rw [z] at h1; exact h1.elim
  | some cf =>
    obtain ⟨c', fs⟩ := cf
    rw [z] at h1
    replace h1 : Po G _ H1 F1 ad1 (QV G Q) (if c' = c ∧ fs.lookup mth = none then (m ρ st1).bind fun xs st => g (x :: xs) st else .bad) := h1
    split at h1
    · rename_i hc
      obtain ⟨rfl, hl⟩ := hc
      obtain ⟨a, dx, vfs, rfl, hc, h2, h3⟩ := objOf_ok S1 rv z
      refine ⟨a, dx, vfs, rfl, h2, lookup_none h3 hl, ?_⟩
      refine simA_bind s R1 S1 h1 fun xs vs st2 H2 F2 ad2 e2 R2 S2 rvs h2 => ?_
      have rv2 : RepVs G F2 ad2 (.ref a :: (vs ++ dvs)) ((x :: xs) ++ es.map Va.d) := .cons (rv.ext e2) (Paired.append rvs (hd F2).va)
      rcases hg with hg | hg
      · rw [hg] at h2
        exact ⟨F2, ad2, st2, _, S2, rv2, h2⟩
      · rw [hg] at h2
        exact spM_pure S2 rv2 h2
    · exact h1.elim
section
variable {k : Nat} {fa : Addr} {fd : FuncData} {ps : List Str} {f : MF} {dvs : List V} {ds : List Value} {es : List D} {c mth : String} {e o : Expr} {ee : List Expr} {p pos apos : Pos} {m : MA} {mo : ME}
theorem de_meth {pl : Sem Bool} (g : MF) (he : DE G W X o mo) (cl : Cls X.K (G.ca c)) (hm : Meth X.K (G.ca c) (Str.ofString mth) fa) (F : FnOk X.prog X.w X.K X.mg X.base (L2.CX X.prog X.w) k fa fd ps (spM G f)) (hr : Room k X.A) (hb : Binds X.K fd ps ds) (hv : Vals dvs ds) (hd : DflR G dvs es) (tk : Takes X W)
    (hg : (∀ ds st, g ds st = f (ds ++ es.map Va.d) st) ∨ (∀ ds st, g ds st = pureF f (ds ++ es.map Va.d) st)) (ha : DA G W X (e :: ee) m)
    (hst : starEach (e :: ee) X.env = (false, eval e X.env) :: starEach ee X.env := by rfl) (hpl : (backTo pos (starEach ee X.env)).any (·.1) = false := by rfl)
    (ht : eval (.Call (.Attribute o (Str.ofString mth) apos) (e :: ee) [] pos) X.env = (do
      let ov ← eval o X.env
      standAt apos.atName
      let (f, first) ← holding [ov] (getMethod ov (Str.ofString mth) pl)
      callWith pos f first (backTo pos (starEach (e :: ee) X.env)) (backToKw pos (keywordEach [] X.env))) := by rfl) : DE G W X (.Call (.Attribute o (Str.ofString mth) apos) (e :: ee) [] pos) (mMeth c mth g mo m) := by
  obtain ⟨t, pt, st⟩ := ha
  obtain ⟨to, po, so⟩ := he
  exact ⟨_, pe_methSD po cl hm F hr hb hv (passAt tk) pt hst hpl ht, sim_meth hd hg so st⟩
theorem de_meth0 {pl : Sem Bool} (g : MF) (he : DE G W X o mo) (cl : Cls X.K (G.ca c)) (hm : Meth X.K (G.ca c) (Str.ofString mth) fa) (F : FnOk X.prog X.w X.K X.mg X.base (L2.CX X.prog X.w) k fa fd ps (spM G f)) (hr : Room k X.A) (hb : Binds X.K fd ps ds) (hv : Vals dvs ds) (hd : DflR G dvs es) (tk : Takes X W)
    (hg : (∀ ds st, g ds st = f (ds ++ es.map Va.d) st) ∨ (∀ ds st, g ds st = pureF f (ds ++ es.map Va.d) st))
    (ht : eval (.Call (.Attribute o (Str.ofString mth) apos) [] [] pos) X.env = (do
      let ov ← eval o X.env
      standAt apos.atName
      let (f, first) ← holding [ov] (getMethod ov (Str.ofString mth) pl)
      callWith pos f first (backTo pos (starEach [] X.env)) (backToKw pos (keywordEach [] X.env))) := by rfl) : DE G W X (.Call (.Attribute o (Str.ofString mth) apos) [] [] pos) (mMeth c mth g mo mNil) := by
  obtain ⟨to, po, so⟩ := he
  exact ⟨_, pe_methSD0 po cl hm F hr hb hv (passAt tk) ht, sim_meth hd hg so fun σ ρ H F ad st Q R S h => fin_same S h _ .nil⟩
end
/-! properties -/
def noEr {α : Type} : Res α → Res α
  | .ok a st => .ok a st
  | _ => .bad
def mProp (c : String) (g : MF) (o : ME) : ME := fun ρ st => (o ρ st).bind fun x st => match objOf x st with
  | some (c', _) => if c' = c then noEr (g [x] st) else .bad
  | none => .bad
theorem po_noEr {α : Type} {Wv Wv' : Value → Option Addr → Hp → Prop} {H F : Hp} {ad : List Addr} {P : α → Sto → Hp → Hp → List Addr → Prop} {r : Res α} (h : Po G Wv H F ad P (noEr r)) : Po G Wv' H F ad P r := by
  cases r with
  | ok a st => exact h
  | _ => exact h.elim
theorem de_prop {k : Nat} {fa p : Addr} {fd : FuncData} {ps : List Str} {f : MF} (g : MF) {c : String} {x : Str} {e : Expr} {pos : Pos} {mo : ME} (he : DE G W X e mo) (cl : Cls X.K (G.ca c)) (hp : PropOf X.K (G.ca c) x p fa) (F : FnOk X.prog X.w X.K X.mg X.base (L2.CX X.prog X.w) k fa fd ps (spM G f)) (hr : Room (k + 1) X.A) (hb : Binds X.K fd ps [])
    (hg : (∀ ds st, g ds st = f ds st) ∨ (∀ ds st, g ds st = pureF f ds st)) (hab : attributeBase e x X.env (eval e X.env) = eval e X.env) : DE G W X (.Attribute e x pos) (mProp c g mo) := by
  obtain ⟨t, pt, s⟩ := he
  refine ⟨_, pe_prop (E := fun _ _ _ => False) pt cl hp F hr hb .nil passL hab, ?_⟩
  intro σ ρ H F ad st Q R S h
  refine simE_bind s R S h fun x v st1 H1 F1 ad1 _ R1 S1 rv h1 => ?_
  cases z : objOf x st1 with
  | none => rw [z] at h1; exact h1.elim
  | some cf =>
    obtain ⟨c', fs⟩ := cf
    rw [z] at h1
    replace h1 : Po G _ H1 F1 ad1 (QV G Q) (if c' = c then noEr (g [x] st1) else .bad) := h1
    split at h1
    · rename_i hc
      subst hc
      obtain ⟨a, dx, vfs, rfl, hc, h2, h3⟩ := objOf_ok S1 rv z
      refine ⟨a, dx, vfs, rfl, h2, ?_⟩
      have h1 := po_noEr (Wv' := fun _ _ _ => False) h1
      rcases hg with hg | hg
      · rw [hg] at h1
        exact ⟨F1, ad1, st1, _, S1, .cons rv .nil, h1⟩
      · rw [hg] at h1
        exact spM_pure S1 (.cons rv .nil) h1
    · exact h1.elim
/-! C(..) -/
/-- a new instance that may change -/
def makeC (c : String) (f : MF) : MF := fun ds st => match f (.ref st.length :: ds) (st ++ [.obj c []]) with
  | .ok (.d .non) st1 => .ok (.ref st.length) st1
  | .er c fs st1 => .er c fs st1
  | _ => .bad
/-- a new instance, frozen behind its __init__ -/
def makeP (c : String) (f : MF) : MF := fun ds st => match ds? ds with
  | some _ => (match f (.ref 0 :: ds) [.obj c []] with
    | .ok (.d .non) st1 => (match rsv st1 (st1.length + 1) (.ref 0) with
      | some x => .ok (.d x) st
      | none => .bad)
    | .er c fs st1 => (match rsvF st1 (st1.length + 1) fs with
      | some gs => .er c gs st
      | none => .bad)
    | _ => .bad)
  | none => .bad
theorem SR.inst {H F : Hp} {ad : List Addr} {st : Sto} {c : String} {x dx : Addr} (S : SR G H F ad st) (hc : c ∈ G.cs) (hx : H x = none) (hd : H dx = none) (ne : dx ≠ x) :
    SR G (upd (upd H dx (.own x)) x (.ins (G.ca c) dx [])) (upd F dx (.own x)) (ad ++ [x]) (st ++ [.obj c []]) ∧ Ext H F ad (upd (upd H dx (.own x)) x (.ins (G.ca c) dx [])) (upd F dx (.own x)) (ad ++ [x]) := by
  have S1 := S.new (o := .own x) hd
  have E1 := ext_new S (o := .own x) hd
  have hx1 : upd H dx (.own x) x = none := by rw [upd_ne ne.symm]; exact hx
  exact ⟨S1.cell (m := .obj c []) hx1 ⟨hc, dx, [], upd_same, .nil⟩, E1.trans (ext_cell S1 hx1)⟩
theorem sim_makeC {f : MF} {c : String} {dvs : List V} {es : List D} {vs : List V} {xs : List Va} {H F : Hp} {ad : List Addr} {st : Sto} {Q : VK} {E : XK} (hc : c ∈ G.cs) (hd : DflR G dvs es) (S : SR G H F ad st) (r : RepVs G F ad vs xs) (h : Po G E H F ad (QV G Q) (makeC c (withD es f) xs st)) :
    ∀ x dx, H x = none → H dx = none → dx ≠ x → spM G f (.ref x :: (vs ++ dvs)) (upd (upd H dx (.own x)) x (.ins (G.ca c) dx [])) (fun v H2 => v = .non ∧ Q (.ref x) H2) E := by
  intro x dx hx hdx ne
  obtain ⟨S1, E1⟩ := S.inst hc hx hdx ne
  have hself : (ad ++ [x])[st.length]? = some x := by rw [← S.len]; simp
  refine ⟨_, _, _, (.ref st.length :: xs) ++ es.map Va.d, S1, .cons ⟨x, hself, rfl⟩ (Paired.append (RepVs.ext E1 r) (hd _).va), ?_⟩
  unfold makeC withD at h
  revert h
  generalize f ((.ref st.length :: xs) ++ es.map Va.d) (st ++ [.obj c []]) = o
  intro h
  cases o with
  | bad => exact h.elim
  | er c' fs st1 => exact fun H' F' ad' cls d e' S' z => h H' F' ad' cls d (E1.trans e') S' z
  | ok v st1 =>
    cases v with
    | ref n => exact h.elim
    | d v => cases v with
      | non =>
        intro H' F' ad' e' S' w rw
        cases rw
        exact ⟨rfl, h H' F' ad' (E1.trans e') S' _ ⟨x, e'.at_ hself, rfl⟩⟩
      | _ => exact h.elim
theorem sim_makeP {f : MF} {c : String} {dvs : List V} {es : List D} {vs : List V} {xs : List Va} {H F : Hp} {ad : List Addr} {st : Sto} {Q : VK} {E : XK} (hc : c ∈ G.cs) (hd : DflR G dvs es) (S : SR G H F ad st) (r : RepVs G F ad vs xs) (h : Po G E H F ad (QV G Q) (makeP c (withD es f) xs st)) :
    ∀ x dx, H x = none → H dx = none → dx ≠ x → spM G f (.ref x :: (vs ++ dvs)) (upd (upd H dx (.own x)) x (.ins (G.ca c) dx [])) (fun v H2 => v = .non ∧ Q (.ref x) H2) E := by
  intro x dx hx hdx ne
  unfold makeP at h
  cases zd : ds? xs with
  | none => rw [zd] at h; exact h.elim
  | some ys =>
    rw [zd] at h
    obtain ⟨S1, E1⟩ := (S.none_).inst hc hx hdx ne
    have r0 : RepVs G F [] vs xs := by
      rw [ds?_ok zd] at r ⊢
      exact (Reps.of r).va
    refine ⟨_, _, _, (.ref 0 :: xs) ++ es.map Va.d, S1, .cons ⟨x, rfl, rfl⟩ (Paired.append (RepVs.ext E1 r0) (hd _).va), ?_⟩
    unfold withD at h
    revert h
    show Po G E H F ad (QV G Q) (match f ((.ref 0 :: xs) ++ es.map Va.d) ([] ++ [.obj c []]) with
      | .ok (.d .non) st1 => (match rsv st1 (st1.length + 1) (.ref 0) with
        | some x => .ok (.d x) st
        | none => .bad)
      | .er c fs st1 => (match rsvF st1 (st1.length + 1) fs with
        | some gs => .er c gs st
        | none => .bad)
      | _ => .bad) → _
    generalize f ((.ref 0 :: xs) ++ es.map Va.d) ([] ++ [.obj c []]) = o
    intro h
    cases o with
    | bad => exact h.elim
    | er c' fs st1 =>
      intro H1 F1 ad1 cls d e1 S2 er
      have h : Po G E H F ad (QV G Q) (match rsvF st1 (st1.length + 1) fs with
        | some gs => .er c' gs st
        | none => .bad) := h
      cases zz : rsvF st1 (st1.length + 1) fs with
      | none => rw [zz] at h; exact h.elim
      | some gs =>
        rw [zz] at h
        obtain ⟨S3, E3⟩ := S.behind (E1.trans e1) S2
        exact h _ _ _ cls d E3 S3 (err_behind S2 zz er)
    | ok v st1 =>
      cases v with
      | ref n => exact h.elim
      | d v => cases v with
        | non =>
          intro H1 F1 ad1 e1 S2 w rw
          cases rw
          have h : Po G E H F ad (QV G Q) (match rsv st1 (st1.length + 1) (.ref 0) with
            | some x => .ok (.d x) st
            | none => .bad) := h
          cases zz : rsv st1 (st1.length + 1) (.ref 0) with
          | none => rw [zz] at h; exact h.elim
          | some y =>
            rw [zz] at h
            obtain ⟨S3, E3⟩ := S.behind (E1.trans e1) S2
            exact ⟨rfl, h _ _ _ E3 S3 _ (rsv_ok (x := .ref 0) S2 ⟨x, e1.at_ (n := 0) rfl, rfl⟩ zz)⟩
        | _ => exact h.elim
section
variable {k : Nat} {fa : Addr} {fd : FuncData} {ps : List Str} {f : MF} {dvs : List V} {ds : List Value} {es : List D} {c : String} {x : Str} {e : Expr} {ee : List Expr} {p pos : Pos} {m : MA}
theorem de_makeP (hc : c ∈ G.cs) (M : Mk X.K (G.ca c) fa) (F : FnOk X.prog X.w X.K X.mg X.base (L2.CX X.prog X.w) k fa fd ps (spM G f)) (hr : Room (k + 1) X.A) (hg : Gl X x) (hm : X.mg x = some (.ref (G.ca c))) (hb : Binds X.K fd ps ds) (hv : Vals dvs ds) (hd : DflR G dvs es) (tk : Takes X W)
    (ha : DA G W X (e :: ee) m) (hdb : (x == ("__debug__" : Str)) = false := by decide) (he : starEach (e :: ee) X.env = (false, eval e X.env) :: starEach ee X.env := by rfl) (hpl : (backTo pos (starEach ee X.env)).any (·.1) = false := by rfl) : DE G W X (.Call (.Name x p) (e :: ee) [] pos) (mCall (makeP c (withD es f)) m) := by
  obtain ⟨t, pt, s⟩ := ha
  refine ⟨_, pe_makeSD M F hr hg hm hb hv (passAt tk) pt hdb he hpl, ?_⟩
  intro σ ρ H F ad st Q R S h
  exact simA_bind s R S h fun xs vs st1 H1 F1 ad1 _ R1 S1 rvs h1 => sim_makeP hc hd S1 rvs h1
theorem de_makeC (hc : c ∈ G.cs) (M : Mk X.K (G.ca c) fa) (F : FnOk X.prog X.w X.K X.mg X.base (L2.CX X.prog X.w) k fa fd ps (spM G f)) (hr : Room (k + 1) X.A) (hg : Gl X x) (hm : X.mg x = some (.ref (G.ca c))) (hb : Binds X.K fd ps ds) (hv : Vals dvs ds) (hd : DflR G dvs es) (tk : Takes X W)
    (ha : DA G W X (e :: ee) m) (hdb : (x == ("__debug__" : Str)) = false := by decide) (he : starEach (e :: ee) X.env = (false, eval e X.env) :: starEach ee X.env := by rfl) (hpl : (backTo pos (starEach ee X.env)).any (·.1) = false := by rfl) : DE G W X (.Call (.Name x p) (e :: ee) [] pos) (mCall (makeC c (withD es f)) m) := by
  obtain ⟨t, pt, s⟩ := ha
  refine ⟨_, pe_makeSD M F hr hg hm hb hv (passAt tk) pt hdb he hpl, ?_⟩
  intro σ ρ H F ad st Q R S h
  exact simA_bind s R S h fun xs vs st1 H1 F1 ad1 _ R1 S1 rvs h1 => sim_makeC hc hd S1 rvs h1
theorem de_make0 (g : MF) (hg2 : g = makeP c (withD es f) ∨ g = makeC c (withD es f)) (hc : c ∈ G.cs) (M : Mk X.K (G.ca c) fa) (F : FnOk X.prog X.w X.K X.mg X.base (L2.CX X.prog X.w) k fa fd ps (spM G f)) (hr : Room (k + 1) X.A) (hg : Gl X x) (hm : X.mg x = some (.ref (G.ca c))) (hb : Binds X.K fd ps ds) (hv : Vals dvs ds) (hd : DflR G dvs es) (tk : Takes X W)
    (hdb : (x == ("__debug__" : Str)) = false := by decide) : DE G W X (.Call (.Name x p) [] [] pos) (mCall g mNil) := by
  refine ⟨_, pe_makeSD0 M F hr hg hm hb hv (passAt tk) hdb, ?_⟩
  intro σ ρ H F ad st Q R S h
  rcases hg2 with e | e
  · subst e
    exact sim_makeP hc hd S .nil h
  · subst e
    exact sim_makeC hc hd S .nil h
end
end

/-! ### statements -/
section
variable {G : Ga} {W : L2.WX} {X : Cx}
/-! targets: they change slots alone -/
abbrev MG := Va → Ev → Option Ev
def Agree (vs : List Nat) (σ σ' : L2.St) : Prop := σ'.length = σ.length ∧ ∀ i, i ∉ vs → σ'[i]? = σ[i]?
theorem Agree.refl {vs : List Nat} {σ : L2.St} : Agree vs σ σ := ⟨rfl, fun _ _ => rfl⟩
theorem Agree.trans {vs : List Nat} {σ σ1 σ2 : L2.St} (a : Agree vs σ σ1) (b : Agree vs σ1 σ2) : Agree vs σ σ2 := ⟨b.1.trans a.1, fun i h => (b.2 i h).trans (a.2 i h)⟩
def SimG (G : Ga) (vs : List Nat) (g : TG) (m : MG) : Prop := ∀ (v : V) (x : Va) (σ : L2.St) (ρ ρ' : Ev) (H F : Hp) (ad : List Addr) (st : Sto) (Q : L2.St → Hp → Prop), RepV G F ad v x → RelE G F ad σ ρ → SR G H F ad st → m x ρ = some ρ' →
  (∀ σ', Agree vs σ σ' → RelE G F ad σ' ρ' → Q σ' H) → g v σ H Q
def SimGs (G : Ga) (vs : List Nat) (g : TGs) (m : List Va → Ev → Option Ev) : Prop := ∀ (v : List V) (x : List Va) (σ : L2.St) (ρ ρ' : Ev) (H F : Hp) (ad : List Addr) (st : Sto) (Q : L2.St → Hp → Prop), RepVs G F ad v x → RelE G F ad σ ρ → SR G H F ad st → m x ρ = some ρ' →
  (∀ σ', Agree vs σ σ' → RelE G F ad σ' ρ' → Q σ' H) → g v σ H Q
def gN (i : Nat) : MG := fun x ρ => some (ρ.set i (some x))
theorem simG_name {vs : List Nat} {i : Nat} (hs : G.Stb) (hi : i ∈ vs) : SimG G vs (gName i) (gN i) := by
  intro v x σ ρ ρ' H F ad st Q r R S e q
  cases e
  refine q _ ⟨by rw [List.length_set], fun j hj => ?_⟩ (R.set hs r)
  rw [List.getElem?_set_ne (fun z => hj (by rw [← z]; exact hi))]
def gsN : List Va → Ev → Option Ev
  | [], ρ => some ρ
  | _, _ => none
def gsC (m : MG) (r : List Va → Ev → Option Ev) : List Va → Ev → Option Ev
  | x :: xs, ρ => (m x ρ).bind (r xs)
  | _, _ => none
theorem simGs_nil {vs : List Nat} : SimGs G vs gNil gsN := by
  intro v x σ ρ ρ' H F ad st Q r R S e q
  cases r with
  | nil => cases e; exact ⟨rfl, q _ Agree.refl R⟩
  | cons _ _ => cases e
theorem simGs_cons {vs : List Nat} {g : TG} {gs : TGs} {m : MG} {ms : List Va → Ev → Option Ev} (hg : SimG G vs g m) (hs : SimGs G vs gs ms) : SimGs G vs (gCons g gs) (gsC m ms) := by
  intro v x σ ρ ρ' H F ad st Q r R S e q
  cases r with
  | nil => cases e
  | @cons a y as ys r t =>
    have e : (m y ρ).bind (ms ys) = some ρ' := e
    cases z : m y ρ with
    | none => rw [z] at e; cases e
    | some ρ1 =>
      rw [z] at e
      refine ⟨a, as, rfl, hg a y σ ρ ρ1 H F ad st _ r R S z fun σ1 a1 R1 => ?_⟩
      exact hs as ys σ1 ρ1 ρ' H F ad st _ t R1 S e fun σ2 a2 R2 => q σ2 (a1.trans a2) R2
/-- a, b = a tuple -/
def gT (n : Nat) (m : List Va → Ev → Option Ev) : MG
  | .d (.tup xs), ρ => if xs.length = n then m (xs.map Va.d) ρ else none
  | _, _ => none
theorem simG_tup {vs : List Nat} {n : Nat} {g : TGs} {m : List Va → Ev → Option Ev} (h : SimGs G vs g m) : SimG G vs (gTup G.K n g) (gT n m) := by
  intro v x σ ρ ρ' H F ad st Q r R S e q
  cases x with
  | ref n => cases e
  | d x => cases r with
    | @tup a ws ds h1 t =>
      have e : (if ds.length = n then m (ds.map Va.d) ρ else none) = some ρ' := e
      split at e
      · rename_i hn
        exact ⟨a, ws, rfl, sqT_same S.sub h1, by rw [t.length]; exact hn, h ws _ σ ρ ρ' H F ad st _ t.va R S e q⟩
      · cases e
    | _ => cases e
/-- a, b = a list -/
def gL (n : Nat) (m : List Va → Ev → Option Ev) : MG
  | .d (.lst xs), ρ => if xs.length = n then m (xs.map Va.d) ρ else none
  | _, _ => none
theorem simG_lst {vs : List Nat} {n : Nat} {g : TGs} {m : List Va → Ev → Option Ev} (h : SimGs G vs g m) : SimG G vs (gUnl G.K n g) (gL n m) := by
  intro v x σ ρ ρ' H F ad st Q r R S e q
  cases x with
  | ref n => cases e
  | d x => cases r with
    | @lst a ws ds h1 t =>
      have e : (if ds.length = n then m (ds.map Va.d) ρ else none) = some ρ' := e
      split at e
      · rename_i hn
        exact ⟨a, ws, rfl, SqL.of (S.sub _ _ h1), by rw [t.length]; exact hn, h ws _ σ ρ ρ' H F ad st _ t.va R S e q⟩
      · cases e
    | _ => cases e
def DG (G : Ga) (X : Cx) (vs : List Nat) (tg : Expr) (m : MG) : Prop := ∃ g, PG X tg g ∧ SimG G vs g m
def DGs (G : Ga) (X : Cx) (vs : List Nat) (tg : List Expr) (m : List Va → Ev → Option Ev) : Prop := ∃ g, PGs X tg g ∧ SimGs G vs g m
theorem dg_name {vs : List Nat} {tg : Expr} {i : Nat} (hs : G.Stb) (hi : i ∈ vs) (h : PG X tg (gName i)) : DG G X vs tg (gN i) := ⟨_, h, simG_name hs hi⟩
theorem dgs_nil {vs : List Nat} : DGs G X vs [] gsN := ⟨_, pgs_nil, simGs_nil⟩
theorem dgs_cons {vs : List Nat} {t : Expr} {ts : List Expr} {m : MG} {ms : List Va → Ev → Option Ev} (h : DG G X vs t m) (hs : DGs G X vs ts ms) (he : (assignEach (t :: ts) X.env).map (·.2) = assign t X.env :: (assignEach ts X.env).map (·.2) := by rfl) : DGs G X vs (t :: ts) (gsC m ms) := by
  obtain ⟨g, p, s⟩ := h
  obtain ⟨gs, ps, ss⟩ := hs
  exact ⟨_, pgs_cons p ps he, simGs_cons s ss⟩
theorem dg_tup {vs : List Nat} {es : List Expr} {k n : Nat} {pos : Pos} {m : List Va → Ev → Option Ev} (hK : X.K = G.K) (hc : X.calm = true) (h : DGs G X vs es m) (hn : (assignEach es X.env).length = n := by rfl) (hst : (assignEach es X.env).findIdx? (·.1) = none := by rfl) : DG G X vs (.Tuple es k pos) (gT n m) := by
  obtain ⟨g, p, s⟩ := h
  exact ⟨_, pg_tup hc p hn hst, by rw [hK]; exact simG_tup s⟩
theorem dg_lst {vs : List Nat} {es : List Expr} {k n : Nat} {pos : Pos} {m : List Va → Ev → Option Ev} (hK : X.K = G.K) (hc : X.calm = true) (h : DGs G X vs es m) (hn : (assignEach es X.env).length = n := by rfl) (hst : (assignEach es X.env).findIdx? (·.1) = none := by rfl) : DG G X vs (.Tuple es k pos) (gL n m) := by
  obtain ⟨g, p, s⟩ := h
  exact ⟨_, pg_unl hc p hn hst, by rw [hK]; exact simG_lst s⟩
/-! blocks -/
def mSkip : MS := fun ρ st => .nx ρ st
def mSeq (a b : MS) : MS := fun ρ st => match a ρ st with
  | .nx ρ st => b ρ st
  | o => o
theorem sim_seq {ta tb : TS} {a b : MS} (ha : SimS G W ta a) (hb : SimS G W tb b) : SimS G W (tSeq ta tb) (mSeq a b) := by
  intro σ ρ H F ad st D R S h
  refine ha σ ρ H F ad st _ R S ?_
  unfold mSeq at h
  revert h
  generalize a ρ st = o
  intro h
  cases o with
  | nx ρ1 st1 => exact fun H1 F1 ad1 σ1 e1 S1 R1 => hb σ1 ρ1 H1 F1 ad1 st1 D R1 S1 (PoS.from e1 h)
  | rt d st1 => exact h
  | bk ρ1 st1 => exact h
  | ct ρ1 st1 => exact h
  | er c fs ρ1 st1 => exact h
  | bad => exact h
theorem dss_nil : DSs G W X [] mSkip := ⟨_, pss_nil, fun σ ρ H F ad st D R S h => h H F ad σ Ext.refl S R⟩
theorem dss_one {s : Stmt} {m : MS} (h : DS G W X s m) : DSs G W X [s] m := by
  obtain ⟨t, p, z⟩ := h
  exact ⟨_, pss_one p, z⟩
theorem dss_cons {s : Stmt} {r : List Stmt} {m ms : MS} (h : DS G W X s m) (hr : DSs G W X r ms) : DSs G W X (s :: r) (mSeq m ms) := by
  obtain ⟨t, p, z⟩ := h
  obtain ⟨tr, pr, zr⟩ := hr
  exact ⟨_, pss_cons p pr, sim_seq z zr⟩
/-! from expressions to statements -/
def outE (r : Res Va) (ρ : Ev) (k : Va → Sto → Out) : Out := match r with
  | .ok v st => k v st
  | .er c fs st => .er c fs ρ st
  | .bad => .bad
theorem simE_out {tt : TE} {mt : ME} (ht : SimE G W tt mt) {k : Va → Sto → Out} {σ : L2.St} {ρ : Ev} {H F : Hp} {ad : List Addr} {st : Sto} {D : Ends} {Q : VK} (R : RelE G F ad σ ρ) (S : SR G H F ad st)
    (h : PoS G W H F ad D (outE (mt ρ st) ρ k)) (q : ∀ x v st1 H1 F1 ad1, Ext H F ad H1 F1 ad1 → RelE G F1 ad1 σ ρ → SR G H1 F1 ad1 st1 → RepV G F1 ad1 v x → PoS G W H1 F1 ad1 D (k x st1) → Q v H1) : tt σ H Q := by
  refine ht σ ρ H F ad st _ R S ?_
  unfold outE at h
  revert h
  generalize mt ρ st = ra
  intro h
  cases ra with
  | bad => exact h
  | er c fs st1 => exact fun H' F' ad' cls d e S' z => h H' F' ad' σ cls d e S' (R.ext e) z
  | ok x st1 => exact fun H1 F1 ad1 e1 S1 v rv => q x v st1 H1 F1 ad1 e1 (R.ext e1) S1 rv (PoS.from e1 h)
def outT (r : Res Bool) (ρ : Ev) (k : Bool → Sto → Out) : Out := match r with
  | .ok v st => k v st
  | .er c fs st => .er c fs ρ st
  | .bad => .bad
theorem simT_out {tt : TT} {mt : MT} (ht : SimT G W tt mt) {k : Bool → Sto → Out} {σ : L2.St} {ρ : Ev} {H F : Hp} {ad : List Addr} {st : Sto} {D : Ends} {Q : Bool → Hp → Prop} (R : RelE G F ad σ ρ) (S : SR G H F ad st)
    (h : PoS G W H F ad D (outT (mt ρ st) ρ k)) (q : ∀ b st1 H1 F1 ad1, Ext H F ad H1 F1 ad1 → RelE G F1 ad1 σ ρ → SR G H1 F1 ad1 st1 → PoS G W H1 F1 ad1 D (k b st1) → Q b H1) : tt σ H Q := by
  refine ht σ ρ H F ad st _ R S ?_
  unfold outT at h
  revert h
  generalize mt ρ st = ra
  intro h
  cases ra with
  | bad => exact h
  | er c fs st1 => exact fun H' F' ad' cls d e S' z => h H' F' ad' σ cls d e S' (R.ext e) z
  | ok x st1 => exact fun H1 F1 ad1 e1 S1 => q x st1 H1 F1 ad1 e1 (R.ext e1) S1 (PoS.from e1 h)
def mRet (a : ME) : MS := fun ρ st => outE (a ρ st) ρ fun v st => .rt v st
theorem ds_ret {e : Expr} {pos : Pos} {m : ME} (h : DE G W X e m) : DS G W X (.Return (some e) pos) (mRet m) := by
  obtain ⟨t, p, s⟩ := h
  refine ⟨_, ps_ret p, ?_⟩
  intro σ ρ H F ad st D R S h
  exact simE_out s R S h fun x v st1 H1 F1 ad1 _ R1 S1 rv h1 => h1 H1 F1 ad1 v Ext.refl S1 rv
def mRetN : MS := fun _ st => .rt (.d .non) st
theorem ds_retN {pos : Pos} : DS G W X (.Return none pos) mRetN := ⟨_, ps_retN, fun σ ρ H F ad st D R S h => h H F ad _ Ext.refl S .non⟩
theorem ds_pass {pos : Pos} : DS G W X (.Pass pos) mSkip := ⟨_, ps_pass, fun σ ρ H F ad st D R S h => h H F ad σ Ext.refl S R⟩
def mBrk : MS := fun ρ st => .bk ρ st
def mCnt : MS := fun ρ st => .ct ρ st
theorem ds_break {pos : Pos} : DS G W X (.Break pos) mBrk := ⟨_, ps_break, fun σ ρ H F ad st D R S h => h H F ad σ Ext.refl S R⟩
theorem ds_continue {pos : Pos} : DS G W X (.Continue pos) mCnt := ⟨_, ps_continue, fun σ ρ H F ad st D R S h => h H F ad σ Ext.refl S R⟩
theorem ds_doc {z : Str} {j p pos} : DS G W X (.Expr (.Constant (.str z) j p) pos) mSkip := ⟨_, ps_doc, fun σ ρ H F ad st D R S h => h H F ad σ Ext.refl S R⟩
def mExpr (a : ME) : MS := fun ρ st => outE (a ρ st) ρ fun _ st => .nx ρ st
theorem ds_expr {s : Stmt} {e : Expr} {m : ME} (hp : ∀ {t : TE}, PE X e t → PS X s (tDrop t)) (h : DE G W X e m) : DS G W X s (mExpr m) := by
  obtain ⟨t, p, sm⟩ := h
  refine ⟨_, hp p, ?_⟩
  intro σ ρ H F ad st D R S h
  exact simE_out sm R S h fun x v st1 H1 F1 ad1 _ R1 S1 rv h1 => h1 H1 F1 ad1 σ Ext.refl S1 R1
def mAsg (a : ME) (g : MG) : MS := fun ρ st => outE (a ρ st) ρ fun v st => match g v ρ with
  | some ρ' => .nx ρ' st
  | none => .bad
theorem sim_asg {te : TE} {m : ME} {g : TG} {mg : MG} {vs : List Nat} (s : SimE G W te m) (hg : SimG G vs g mg) : SimS G W (tAsg te g) (mAsg m mg) := by
  intro σ ρ H F ad st D R S h
  refine simE_out s R S h fun x v st1 H1 F1 ad1 _ R1 S1 rv h1 => ?_
  cases z : mg x ρ with
  | none => rw [z] at h1; exact h1.elim
  | some ρ' =>
    rw [z] at h1
    exact hg v x σ ρ ρ' H1 F1 ad1 st1 _ rv R1 S1 z fun σ' _ R' => h1 H1 F1 ad1 σ' Ext.refl S1 R'
/-- x = e -/
theorem ds_set {s : Stmt} {e : Expr} {m : ME} {i : Nat} (hs : G.Stb) (hp : ∀ {t : TE}, PE X e t → PS X s (tAsg t (gName i))) (h : DE G W X e m) : DS G W X s (mAsg m (gN i)) := by
  obtain ⟨t, p, sm⟩ := h
  exact ⟨_, hp p, sim_asg sm (simG_name (vs := [i]) hs (List.mem_singleton.mpr rfl))⟩
/-- a, b = e -/
theorem ds_asg {tg e : Expr} {pos : Pos} {m : ME} {mg : MG} {vs : List Nat} (h : DE G W X e m) (hg : DG G X vs tg mg) (hp : ∀ {t : TE} {g : TG}, PE X e t → PG X tg g → PS X (.Assign [tg] e pos) (tAsg t g)) : DS G W X (.Assign [tg] e pos) (mAsg m mg) := by
  obtain ⟨t, p, sm⟩ := h
  obtain ⟨g, pg, sg⟩ := hg
  exact ⟨_, hp p pg, sim_asg sm sg⟩
def mPar (is : List Nat) (a : MA) : MS := fun ρ st => match a ρ st with
  | .ok vs st => if vs.length = is.length then .nx ((is.zip vs).foldl (fun ρ p => ρ.set p.1 (some p.2)) ρ) st else .bad
  | .er c fs st => .er c fs ρ st
  | .bad => .bad
theorem ds_par {s : Stmt} {es : List Expr} {m : MA} {i j : Nat} (hs : G.Stb) (hp : ∀ {t : TA}, PA X es t → PS X s (tPar i j t)) (h : DA G W X es m) : DS G W X s (mPar [i, j] m) := by
  obtain ⟨t, p, sm⟩ := h
  refine ⟨_, hp p, ?_⟩
  intro σ ρ H F ad st D R S h
  refine sm σ ρ H F ad st _ R S ?_
  unfold mPar at h
  revert h
  generalize m ρ st = ra
  intro h
  cases ra with
  | bad => exact h
  | er c fs st1 => exact fun H' F' ad' cls d e S' z => h H' F' ad' σ cls d e S' (R.ext e) z
  | ok xs st1 =>
    intro H1 F1 ad1 e1 S1 ws rw
    match xs, rw, h with
    | [], _, h => exact h.elim
    | [_], _, h => exact h.elim
    | _ :: _ :: _ :: _, _, h =>
      have h : PoS G W H F ad D (if _ = 2 then _ else .bad) := h
      rw [if_neg (by simp)] at h
      exact h.elim
    | [x, y], .cons (a := v) r1 (.cons (a := w) r2 .nil), h =>
      exact ⟨v, w, rfl, h H1 F1 ad1 _ e1 S1 (((R.ext e1).set hs r1).set hs r2)⟩
theorem ds_par3 {s : Stmt} {es : List Expr} {m : MA} {i j l : Nat} {tp : TA → TS} (hs : G.Stb) (hp : ∀ {t : TA}, PA X es t → PS X s (tp t)) (ht : tp = fun ta D σ H => ta σ H fun vs H1 => ∃ v w u, vs = [v, w, u] ∧ D.nx (((σ.set i (some v)).set j (some w)).set l (some u)) H1) (h : DA G W X es m) : DS G W X s (mPar [i, j, l] m) := by
  obtain ⟨t, p, sm⟩ := h
  refine ⟨_, hp p, ?_⟩
  subst ht
  intro σ ρ H F ad st D R S h
  refine sm σ ρ H F ad st _ R S ?_
  unfold mPar at h
  revert h
  generalize m ρ st = ra
  intro h
  cases ra with
  | bad => exact h
  | er c fs st1 => exact fun H' F' ad' cls d e S' z => h H' F' ad' σ cls d e S' (R.ext e) z
  | ok xs st1 =>
    intro H1 F1 ad1 e1 S1 ws rw
    match xs, rw, h with
    | [], _, h => exact h.elim
    | [_], _, h => exact h.elim
    | [_, _], _, h => exact h.elim
    | _ :: _ :: _ :: _ :: _, _, h =>
      have h : PoS G W H F ad D (if _ = 3 then _ else .bad) := h
      rw [if_neg (by simp)] at h
      exact h.elim
    | [x, y, z], .cons (a := v) r1 (.cons (a := w) r2 (.cons (a := u) r3 .nil)), h =>
      exact ⟨v, w, u, rfl, h H1 F1 ad1 _ e1 S1 ((((R.ext e1).set hs r1).set hs r2).set hs r3)⟩
def mIfS (t : MT) (a b : MS) : MS := fun ρ st => outT (t ρ st) ρ fun x st => if x then a ρ st else b ρ st
theorem ds_if {c : Expr} {body orelse : List Stmt} {pos : Pos} {mt : MT} {ma mb : MS} (hc : DT G W X c mt) (ha : DSs G W X body ma) (hb : DSs G W X orelse mb) : DS G W X (.If c body orelse pos) (mIfS mt ma mb) := by
  obtain ⟨tc, pc, sc⟩ := hc
  obtain ⟨ta, pa, sa⟩ := ha
  obtain ⟨tb, pb, sb⟩ := hb
  refine ⟨_, ps_if pc pa pb, ?_⟩
  intro σ ρ H F ad st D R S h
  refine simT_out sc R S h fun b st1 H1 F1 ad1 _ R1 S1 h1 => ?_
  cases b with
  | true => rw [if_pos rfl] at h1 ⊢; exact sa σ ρ H1 F1 ad1 st1 D R1 S1 h1
  | false => rw [if_neg Bool.false_ne_true] at h1 ⊢; exact sb σ ρ H1 F1 ad1 st1 D R1 S1 h1
/-! o.f = e -/
def putS (f : String) (v : Va) : List (String × Va) → List (String × Va)
  | [] => [(f, v)]
  | (g, w) :: r => if f = g then (f, v) :: r else (g, w) :: putS f v r
def mSetF (f : String) (o e : ME) : MS := fun ρ st => outE (e ρ st) ρ fun y st => outE (o ρ st) ρ fun x st => match x with
  | .ref n => (match st[n]? with
    | some (.obj c fs) => if fs.length < 100 then .nx ρ (st.set n (.obj c (putS f y fs))) else .bad
    | _ => .bad)
  | _ => .bad
theorem putS_ok {F : Hp} {ad : List Addr} {f : String} {v : V} {y : Va} (r : RepV G F ad v y) : ∀ {vfs : List (Str × V)} {fs : List (String × Va)}, RepFs G F ad vfs fs → RepFs G F ad (putF (Str.ofString f) v vfs) (putS f y fs)
  | _, _, .nil => .cons ⟨rfl, r⟩ .nil
  | _, _, @Paired.cons _ _ _ (g, w) (h, z) vfs fs ⟨e1, r2⟩ t => by
    have e1 : g = Str.ofString h := e1
    subst e1
    unfold putS putF
    by_cases hf : f = h
    · subst hf
      rw [if_pos rfl]
      first
        | (rw [if_pos rfl]; exact .cons ⟨rfl, r⟩ t)
        | (rw [if_pos (beq_self_eq_true _)]; exact .cons ⟨rfl, r⟩ t)
        | (simp only [beq_self_eq_true, if_true]; exact .cons ⟨rfl, r⟩ t)
    · rw [if_neg hf]
      have n2 : ¬ Str.ofString f = Str.ofString h := fun z => hf (ofS_inj z)
      have n3 : ¬ Str.ofString h = Str.ofString f := fun z => hf (ofS_inj z.symm)
      first
        | (rw [if_neg n2]; exact .cons ⟨rfl, r2⟩ (putS_ok r t))
        | (rw [if_neg n3]; exact .cons ⟨rfl, r2⟩ (putS_ok r t))
        | (rw [if_neg (by simpa using n2)]; exact .cons ⟨rfl, r2⟩ (putS_ok r t))
        | (rw [if_neg (by simpa using n3)]; exact .cons ⟨rfl, r2⟩ (putS_ok r t))
theorem ds_setF {o value : Expr} {f : String} {pos pos' : Pos} {mo mv : ME} (hK : X.K = G.K) (nf : NoAt G f) (ho : DE G W X o mo) (hv : DE G W X value mv) (hs : swapsWith value (some (.Attribute o (Str.ofString f) pos')) pos.line X.env = pure false) : DS G W X (.Assign [.Attribute o (Str.ofString f) pos'] value pos) (mSetF f mo mv) := by
  obtain ⟨to, po, so⟩ := ho
  obtain ⟨tv, pv, sv⟩ := hv
  refine ⟨_, ps_fld po pv hs, ?_⟩
  intro σ ρ H F ad st D R S h
  refine simE_out sv R S h fun y v st1 H1 F1 ad1 _ R1 S1 rv h1 => ?_
  refine simE_out so R1 S1 h1 fun x u st2 H2 F2 ad2 e2 R2 S2 ru h2 => ?_
  cases x with
  | d x => exact h2.elim
  | ref n =>
    obtain ⟨a, ha, rfl⟩ := ru
    replace h2 : PoS G W H2 F2 ad2 D (match st2[n]? with
      | some (.obj c fs) => if fs.length < 100 then .nx ρ (st2.set n (.obj c (putS f y fs))) else .bad
      | _ => .bad) := h2
    cases z : st2[n]? with
    | none => rw [z] at h2; exact h2.elim
    | some ob =>
      rw [z] at h2
      cases ob with
      | obj c fs =>
        have h2 : PoS G W H2 F2 ad2 D (if fs.length < 100 then .nx ρ (st2.set n (.obj c (putS f y fs))) else .bad) := h2
        split at h2
        · rename_i hl
          obtain ⟨hc, dx, vfs, q1, q2⟩ := S2.get ha z
          refine ⟨a, _, dx, vfs, rfl, q1, by rw [hK]; exact (G.cok c hc).cl, by rw [hK]; exact nf c hc, by rw [Paired.length q2]; omega, ?_⟩
          have E := ext_mut (o := .ins (G.ca c) dx (putF (Str.ofString f) v vfs)) S2 ha
          exact h2 _ _ _ σ E (S2.mut (m := .obj c (putS f y fs)) ha ⟨hc, dx, _, upd_same, putS_ok (rv.ext e2) q2⟩) (R2.ext E)
        · exact h2.elim
      | _ => exact h2.elim
/-! xs[i] = e -/
def mSetI (o i e : ME) : MS := fun ρ st => outE (e ρ st) ρ fun y st => outE (o ρ st) ρ fun x st => outE (i ρ st) ρ fun k st => match x, k with
  | .ref n, .d (.int k) => (match st[n]? with
    | some (.lst xs) => (match ixN xs.length k with
      | some j => .nx ρ (st.set n (.lst (xs.set j y)))
      | none => .bad)
    | _ => .bad)
  | _, _ => .bad
theorem Paired.set {α β : Type} {R : α → β → Prop} {a : α} {b : β} (h : R a b) : ∀ {xs : List α} {ys : List β} (j : Nat), Paired R xs ys → Paired R (xs.set j a) (ys.set j b)
  | _, _, _, .nil => .nil
  | _, _, 0, .cons _ t => .cons h t
  | _, _, j + 1, .cons r t => .cons r (Paired.set h j t)
theorem ds_setI {o i value : Expr} {tp pos : Pos} {mo mi mv : ME} (ho : DE G W X o mo) (hi : DE G W X i mi) (hv : DE G W X value mv) (hp : ∀ {t to ti : TE}, PE X value t → PE X o to → PE X i ti → PS X (.Assign [.Subscript o i tp] value pos) (tAsg t (gSub to ti rSetL))) : DS G W X (.Assign [.Subscript o i tp] value pos) (mSetI mo mi mv) := by
  obtain ⟨to, po, so⟩ := ho
  obtain ⟨ti, pi, si⟩ := hi
  obtain ⟨tv, pv, sv⟩ := hv
  refine ⟨_, hp pv po pi, ?_⟩
  intro σ ρ H F ad st D R S h
  refine simE_out sv R S h fun y v st1 H1 F1 ad1 _ R1 S1 rv h1 => ?_
  refine simE_out so R1 S1 h1 fun x u st2 H2 F2 ad2 e2 R2 S2 ru h2 => ?_
  refine simE_out si R2 S2 h2 fun k w st3 H3 F3 ad3 e3 R3 S3 rk h3 => ?_
  cases x with
  | d x => cases k with
    | ref _ => exact h3.elim
    | d k => cases k <;> exact h3.elim
  | ref n =>
    cases k with
    | ref _ => exact h3.elim
    | d k => cases k with
      | int k =>
        cases rk
        obtain ⟨a, ha, rfl⟩ := ru.ext e3
        have h3 : PoS G W H3 F3 ad3 D (match st3[n]? with
          | some (.lst xs) => (match ixN xs.length k with
            | some j => .nx ρ (st3.set n (.lst (xs.set j y)))
            | none => .bad)
          | _ => .bad) := h3
        cases z : st3[n]? with
        | none => rw [z] at h3; exact h3.elim
        | some ob =>
          rw [z] at h3
          cases ob with
          | lst xs =>
            have h3 : PoS G W H3 F3 ad3 D (match ixN xs.length k with
              | some j => .nx ρ (st3.set n (.lst (xs.set j y)))
              | none => .bad) := h3
            obtain ⟨vs, q1, q2⟩ := S3.get ha z
            cases zj : ixN xs.length k with
            | none => rw [zj] at h3; exact h3.elim
            | some j =>
              rw [zj] at h3
              refine ⟨a, vs, k, j, rfl, rfl, q1, by rw [Paired.length q2]; exact zj, ?_⟩
              have E := ext_mut (o := .lst (vs.set j v)) S3 ha
              exact h3 _ _ _ σ E (S3.mut (m := .lst (xs.set j y)) ha ⟨_, upd_same, Paired.set ((rv.ext e2).ext e3) j q2⟩) (R3.ext E)
          | _ => exact h3.elim
      | _ => exact h3.elim
/-! methods of lists -/
abbrev OM := Va → List Va → Sto → Res Va
def SimM (G : Ga) (r : V → List V → Hp → VK → Prop) (f : OM) : Prop := ∀ (Wv : Value → Option Addr → Hp → Prop) (x : V) (dx : Va) (vs : List V) (ds : List Va) (H F : Hp) (ad : List Addr) (st : Sto) (Q : VK), RepV G F ad x dx → RepVs G F ad vs ds → SR G H F ad st → Po G Wv H F ad (QV G Q) (f dx ds st) → r x vs H Q
/-- the receiver is a list, asked ahead of the arguments -/
def isLst : Va → Sto → Bool
  | .d (.lst _), _ => true
  | .ref n, st => match st[n]? with
    | some (.lst _) => true
    | _ => false
  | _, _ => false
theorem isLst_ok {H F : Hp} {ad : List Addr} {st : Sto} {v : V} {x : Va} (S : SR G H F ad st) (r : RepV G F ad v x) (e : isLst x st = true) : tyV G.K "list" v H := by
  cases x with
  | ref n =>
    obtain ⟨a, ha, rfl⟩ := r
    have e : (match st[n]? with
      | some (.lst _) => true
      | _ => false) = true := e
    cases z : st[n]? with
    | none => rw [z] at e; cases e
    | some o =>
      rw [z] at e
      cases o with
      | lst xs =>
        obtain ⟨vs, h1, h2⟩ := S.get ha z
        exact .inl ⟨rfl, _, SqL.of h1⟩
      | _ => cases e
  | d x => cases r with
    | lst h t => exact .inl ⟨rfl, _, SqL.of (S.sub _ _ h)⟩
    | _ => cases e
def mLM (f : OM) (o : ME) (m : MA) : ME := fun ρ st => (o ρ st).bind fun x st => if isLst x st then (m ρ st).bind fun xs st => f x xs st else .bad
theorem sim_lm {r : V → List V → Hp → VK → Prop} {f : OM} {to : TE} {t : TA} {mo : ME} {m : MA} (hr : SimM G r f) (so : SimE G W to mo) (s : SimA G W t m) : SimE G W (tBM G.K "list" r to t) (mLM f mo m) := by
  intro σ ρ H F ad st Q R S h
  refine simE_bind so R S h fun x v st1 H1 F1 ad1 _ R1 S1 rv h1 => ?_
  cases z : isLst x st1 with
  | false => rw [z] at h1; exact h1.elim
  | true =>
    rw [z, if_pos rfl] at h1
    refine ⟨isLst_ok S1 rv z, ?_⟩
    exact simA_bind s R1 S1 h1 fun xs vs st2 H2 F2 ad2 e2 R2 S2 rvs h2 => hr _ v x vs xs H2 F2 ad2 st2 Q (rv.ext e2) rvs S2 h2
theorem de_lm {X : Cx} {r : V → List V → Hp → VK → Prop} {f : OM} {o e : Expr} {ee : List Expr} {s : Expr} {mo : ME} {m : MA} (hK : X.K = G.K) (hp : ∀ {to : TE} {t : TA}, PE X o to → PA X (e :: ee) t → PE X s (tBM X.K "list" r to t)) (hs : SimM G r f) (ho : DE G W X o mo) (ha : DA G W X (e :: ee) m) : DE G W X s (mLM f mo m) := by
  obtain ⟨to, po, so⟩ := ho
  obtain ⟨t, p, st⟩ := ha
  refine ⟨_, hp po p, ?_⟩
  rw [hK]
  exact sim_lm hs so st
def oAppend : OM
  | .ref n, [y], st => match st[n]? with
    | some (.lst xs) => if xs.length < cap then .ok (.d .non) (st.set n (.lst (xs ++ [y]))) else .bad
    | _ => .bad
  | _, _, _ => .bad
theorem sim_append : SimM G rAppend oAppend := by
  intro Wv x dx vs ds H F ad st Q rx rv S h
  cases dx with
  | d x => cases ds with
    | nil => exact h.elim
    | cons d ds => cases ds <;> exact h.elim
  | ref n =>
    cases rv with
    | nil => exact h.elim
    | @cons v y _ _ r t => cases t with
      | cons _ _ => exact h.elim
      | nil =>
        obtain ⟨a, ha, rfl⟩ := rx
        have h : Po G Wv H F ad (QV G Q) (match st[n]? with
          | some (.lst xs) => if xs.length < cap then .ok (.d .non) (st.set n (.lst (xs ++ [y]))) else .bad
          | _ => .bad) := h
        cases z : st[n]? with
        | none => rw [z] at h; exact h.elim
        | some ob =>
          rw [z] at h
          cases ob with
          | lst xs =>
            have h : Po G Wv H F ad (QV G Q) (if xs.length < cap then .ok (.d .non) (st.set n (.lst (xs ++ [y]))) else .bad) := h
            split at h
            · rename_i hc
              obtain ⟨ws, q1, q2⟩ := S.get ha z
              refine ⟨a, ws, v, rfl, rfl, q1, by rw [Paired.length q2]; exact Nat.lt_of_lt_of_le hc (by decide), ?_⟩
              have E := ext_mut (o := .lst (ws ++ [v])) S ha
              exact h _ _ _ E (S.mut (m := .lst (xs ++ [y])) ha ⟨_, upd_same, Paired.append q2 (.cons r .nil)⟩) _ .non
            · exact h.elim
          | _ => exact h.elim
end

/-! ### loops -/
section
variable {G : Ga} {W : L2.WX} {X : Cx}
structure Its where
  xs : List Va
  gd : Option (Nat × List Va) := none
def gOk : Option (Nat × List Va) → Sto → Prop
  | none, _ => True
  | some (n, xs), st => st[n]? = some (.lst xs)
abbrev MI := Ev → Sto → Res Its
abbrev Pre (ad0 ad : List Addr) : Prop := ∃ zs, ad = ad0 ++ zs
structure WalkR (G : Ga) (J : It) (F0 : Hp) (ad0 : List Addr) (it : Its) : Prop where
  goes : ∀ (i : Nat) (H F : Hp) (ad : List Addr) (st : Sto), Same F0 F → Pre ad0 ad → SR G H F ad st → gOk it.gd st → i < it.xs.length → J.go i H
  stops : ∀ (H F : Hp) (ad : List Addr) (st : Sto), Same F0 F → Pre ad0 ad → SR G H F ad st → gOk it.gd st → J.stop it.xs.length H
  yields : ∀ (i : Nat) (H F : Hp) (ad : List Addr) (st : Sto) (v : V) (H' : Hp), Same F0 F → Pre ad0 ad → SR G H F ad st → gOk it.gd st → i < it.xs.length → J.yld i H v H' →
    ∃ F' x, Ext H F ad H' F' ad ∧ SR G H' F' ad st ∧ it.xs[i]? = some x ∧ RepV G F' ad v x
def SimI (G : Ga) (W : L2.WX) (t : TI) (m : MI) : Prop := ∀ (σ : L2.St) (ρ : Ev) (H F : Hp) (ad : List Addr) (st : Sto) (R : It → Hp → Prop), RelE G F ad σ ρ → SR G H F ad st →
  Po G (fun c d H' => W c d σ H') H F ad (fun it _ H' F' ad' => ∀ J, WalkR G J F' ad' it → R J H') (m ρ st) → t σ H R
def DI (G : Ga) (W : L2.WX) (X : Cx) (tg e : Expr) (m : MI) : Prop := ∃ t, PI X tg e t ∧ SimI G W t m
/-- what is walked may be a list or a tuple -/
def SeqIt (K : PySem.W.Frag) (a : Addr) (H : Hp) (J : It) : Prop := ((∃ xs, SqL K H a xs) ∧ J = Itl K a) ∨ ((∃ xs, SqT K H a xs) ∧ J = Itt K a)
def iSeq (K : PySem.W.Frag) (tl : TE) : TI := fun σ H R => tl σ H fun x H1 => ∃ a, x = .ref a ∧ ∃ J, SeqIt K a H1 J ∧ R J H1
theorem pi_seq {tg l : Expr} {tl : TE} (hl : PE X l tl) : PI X tg l (iSeq X.K tl) := by
  refine ⟨fun pins s σ H R I h => ?_⟩
  refine thn (hl.run pins s σ H _ I h) fun v s1 ⟨x, H1, I1, r1, q1⟩ => ?_
  obtain ⟨a, e, J, hJ, q⟩ := q1
  subst e
  cases r1
  rcases hJ with ⟨⟨xs, hq⟩, rfl⟩ | ⟨⟨xs, hq⟩, rfl⟩
  · obtain ⟨its, rv, p, hz⟩ := I1.list hq
    refine wpAny_pyIter_list p.isList ?_
    refine ⟨s1.heap.objs.size, [s1.heap.objs.size], _, _, H1, rfl, I1.kept (t' := s1.toks) fun b o e => Heap.get?_push_of_some _ e, turn_list a _, ⟨_, Heap.get?_push_size _ rfl, rfl, rfl⟩, fun b hb => ?_, q⟩
    have e : b = s1.heap.objs.size := by simpa using hb
    subst e
    exact I1.fpOk (Nat.le_refl _) (I1.hok.fresh (Nat.le_refl _))
  · obtain ⟨its, rv, p, hz⟩ := I1.tuple hq
    refine wpAny_pyIter_tuple (show s1.heap.IsTuple a its.toArray from p) ?_
    refine ⟨s1.heap.objs.size, [s1.heap.objs.size], _, _, H1, rfl, I1.kept (t' := s1.toks) fun b o e => Heap.get?_push_of_some _ e, turn_tuple a _, ⟨_, Heap.get?_push_size _ rfl, rfl, rfl⟩, fun b hb => ?_, q⟩
    have e : b = s1.heap.objs.size := by simpa using hb
    subst e
    exact I1.fpOk (Nat.le_refl _) (I1.hok.fresh (Nat.le_refl _))
def itSeq : Va → Sto → Option Its
  | .d (.lst xs), _ => some ⟨xs.map Va.d, none⟩
  | .d (.tup xs), _ => some ⟨xs.map Va.d, none⟩
  | .ref n, st => match st[n]? with
    | some (.lst xs) => some ⟨xs, some (n, xs)⟩
    | _ => none
  | _, _ => none
def mItS (a : ME) : MI := fun ρ st => (a ρ st).bind fun x st => match itSeq x st with
  | some it => .ok it st
  | none => .bad
theorem walkR_list {F0 : Hp} {ad0 : List Addr} {a : Addr} {vs : List V} {ds : List D} (h : F0 a = some (.lst vs)) (t : Reps G F0 vs ds) : WalkR G (Itl G.K a) F0 ad0 ⟨ds.map Va.d, none⟩ := by
  have wk := walk_list (K := G.K) (a := a) (xs := vs)
  have sq : ∀ {H F : Hp} {ad : List Addr} {st : Sto}, Same F0 F → SR G H F ad st → SqL G.K H a vs := fun s S => SqL.of (S.sub _ _ (s _ _ h))
  have hl : (ds.map Va.d).length = vs.length := by rw [List.length_map, t.length]
  refine ⟨fun i H F ad st s _ S _ hi => wk.goes i H (by rw [← hl]; exact hi) (sq s S), fun H F ad st s _ S _ => by show Itl G.K a |>.stop _ _; rw [hl]; exact wk.stops H (sq s S), fun i H F ad st v H' s _ S _ hi y => ?_⟩
  obtain ⟨e, hv⟩ := wk.yields i H v H' (by rw [← hl]; exact hi) (sq s S) y
  subst e
  have hi2 : i < ds.length := by simpa using hi
  obtain ⟨w, hw, r⟩ := t.get (List.getElem?_eq_getElem hi2)
  rw [hv] at hw
  cases hw
  exact ⟨F, .d ds[i], Ext.refl, S, by simp [List.getElem?_map, List.getElem?_eq_getElem hi2], Rep.same s r⟩
theorem walkR_tup {F0 : Hp} {ad0 : List Addr} {a : Addr} {vs : List V} {ds : List D} (h : SqT G.K F0 a vs) (t : Reps G F0 vs ds) : WalkR G (Itt G.K a) F0 ad0 ⟨ds.map Va.d, none⟩ := by
  have wk := walk_tup (K := G.K) (a := a) (xs := vs)
  have sq : ∀ {H F : Hp} {ad : List Addr} {st : Sto}, Same F0 F → SR G H F ad st → SqT G.K H a vs := fun s S => sqT_same S.sub (sqT_same s h)
  have hl : (ds.map Va.d).length = vs.length := by rw [List.length_map, t.length]
  refine ⟨fun i H F ad st s _ S _ hi => wk.goes i H (by rw [← hl]; exact hi) (sq s S), fun H F ad st s _ S _ => by show Itt G.K a |>.stop _ _; rw [hl]; exact wk.stops H (sq s S), fun i H F ad st v H' s _ S _ hi y => ?_⟩
  obtain ⟨e, hv⟩ := wk.yields i H v H' (by rw [← hl]; exact hi) (sq s S) y
  subst e
  have hi2 : i < ds.length := by simpa using hi
  obtain ⟨w, hw, r⟩ := t.get (List.getElem?_eq_getElem hi2)
  rw [hv] at hw
  cases hw
  exact ⟨F, .d ds[i], Ext.refl, S, by simp [List.getElem?_map, List.getElem?_eq_getElem hi2], Rep.same s r⟩
theorem walkR_cell {F0 : Hp} {ad0 : List Addr} {a : Addr} {n : Nat} {xs : List Va} (h : ad0[n]? = some a) : WalkR G (Itl G.K a) F0 ad0 ⟨xs, some (n, xs)⟩ := by
  have sq : ∀ {H F : Hp} {ad : List Addr} {st : Sto}, Pre ad0 ad → SR G H F ad st → gOk (some (n, xs)) st → ∃ vs, H a = some (.lst vs) ∧ RepVs G F ad vs xs := fun {H F ad st} p S g => by
    obtain ⟨zs, rfl⟩ := p
    exact S.get (by rw [List.getElem?_append_left (List.getElem?_eq_some_iff.mp h).1]; exact h) g
  refine ⟨fun i H F ad st s p S g hi => ?_, fun H F ad st s p S g => ?_, fun i H F ad st v H' s p S g hi y => ?_⟩
  · obtain ⟨vs, h1, h2⟩ := sq p S g
    exact (walk_list (K := G.K) (a := a) (xs := vs)).goes i H (by rw [Paired.length h2]; exact hi) (SqL.of h1)
  · obtain ⟨vs, h1, h2⟩ := sq p S g
    have := (walk_list (K := G.K) (a := a) (xs := vs)).stops H (SqL.of h1)
    rw [Paired.length h2] at this
    exact this
  · obtain ⟨vs, h1, h2⟩ := sq p S g
    obtain ⟨e, hv⟩ := (walk_list (K := G.K) (a := a) (xs := vs)).yields i H v H' (by rw [Paired.length h2]; exact hi) (SqL.of h1) y
    subst e
    obtain ⟨w, hw, r⟩ := Paired.getR h2 i _ (List.getElem?_eq_getElem hi)
    rw [hv] at hw
    cases hw
    exact ⟨F, _, Ext.refl, S, List.getElem?_eq_getElem hi, r⟩
theorem di_seq {tg e : Expr} {m : ME} (hK : X.K = G.K) (he : DE G W X e m) : DI G W X tg e (mItS m) := by
  obtain ⟨t, p, s⟩ := he
  refine ⟨_, pi_seq p, ?_⟩
  rw [hK]
  intro σ ρ H F ad st R Re S h
  refine simE_bind s Re S h fun x v st1 H1 F1 ad1 _ R1 S1 rv h1 => ?_
  cases z : itSeq x st1 with
  | none => rw [z] at h1; exact h1.elim
  | some it =>
    rw [z] at h1
    have h1 := fin_same S1 h1
    cases x with
    | ref n =>
      obtain ⟨a, ha, rfl⟩ := rv
      replace z : (match st1[n]? with
        | some (.lst xs) => some ⟨xs, some (n, xs)⟩
        | _ => none) = some it := z
      cases zz : st1[n]? with
      | none => rw [zz] at z; cases z
      | some ob =>
        rw [zz] at z
        cases ob with
        | lst xs =>
          cases z
          obtain ⟨vs, q1, q2⟩ := S1.get ha zz
          exact ⟨a, rfl, _, .inl ⟨⟨vs, SqL.of q1⟩, rfl⟩, h1 _ (walkR_cell ha)⟩
        | _ => cases z
    | d x => cases rv with
      | @lst a vs ds q t => cases z; exact ⟨a, rfl, _, .inl ⟨⟨vs, SqL.of (S1.sub _ _ q)⟩, rfl⟩, h1 _ (walkR_list q t)⟩
      | @tup a vs ds q t => cases z; exact ⟨a, rfl, _, .inr ⟨⟨vs, sqT_same S1.sub q⟩, rfl⟩, h1 _ (walkR_tup q t)⟩
      | _ => cases z
/-! ranges -/
def rangeV (lo : Int) (n : Nat) : List Va := (List.range n).map fun (i : Nat) => Va.d (.int (lo + i))
theorem walkR_range {F0 : Hp} {ad0 : List Addr} {lo : Int} {n : Nat} : WalkR G (Itr lo n) F0 ad0 ⟨rangeV lo n, none⟩ := by
  have wk := walk_range (lo := lo) (n := n)
  have hl : (rangeV lo n).length = n := by unfold rangeV; rw [List.length_map, List.length_range]
  refine ⟨fun i H F ad st s _ S _ hi => wk.goes i H (by rw [← hl]; exact hi) trivial, fun H F ad st s _ S _ => by show Itr lo n |>.stop _ _; rw [hl]; exact wk.stops H trivial, fun i H F ad st v H' s _ S _ hi y => ?_⟩
  have hi : i < n := by rw [← hl]; exact hi
  obtain ⟨e, hv⟩ := wk.yields i H v H' hi trivial y
  subst e hv
  refine ⟨F, .d (.int (lo + i)), Ext.refl, S, ?_, .int _⟩
  unfold rangeV
  rw [List.getElem?_map, List.getElem?_range hi]
  rfl
def inR (i : Int) : Bool := decide (-1000000000 ≤ i) && decide (i ≤ 1000000000)
def mItR1 (m : MA) : MI := fun ρ st => (m ρ st).bind fun xs st => match xs with
  | [.d (.int j)] => if inR j then .ok ⟨rangeV 0 j.toNat, none⟩ st else .bad
  | _ => .bad
def mItR2 (m : MA) : MI := fun ρ st => (m ρ st).bind fun xs st => match xs with
  | [.d (.int i), .d (.int j)] => if inR i && inR j then .ok ⟨rangeV i (j - i).toNat, none⟩ st else .bad
  | _ => .bad
theorem inR_ok {i : Int} (h : inR i = true) : -(2 ^ 62) ≤ i ∧ i < 2 ^ 62 := by
  unfold inR at h
  rw [Bool.and_eq_true] at h
  have h1 := of_decide_eq_true h.1
  have h2 := of_decide_eq_true h.2
  omega
theorem di_range1 {tg s : Expr} {es : List Expr} {m : MA} (hp : ∀ {t : TA}, PA X es t → PI X tg s (iRng1 t)) (h : DA G W X es m) : DI G W X tg s (mItR1 m) := by
  obtain ⟨t, p, sm⟩ := h
  refine ⟨_, hp p, ?_⟩
  intro σ ρ H F ad st R Re S h
  refine simA_bind sm Re S h fun xs vs st1 H1 F1 ad1 _ R1 S1 rv h1 => ?_
  match xs, rv, h1 with
  | [], _, h1 => exact h1.elim
  | [.ref _], _, h1 => exact h1.elim
  | [.d x], .cons r .nil, h1 =>
    cases r with
    | int j =>
      have h1 : Po G _ H1 F1 ad1 _ (if inR j then Res.ok (Its.mk (rangeV 0 j.toNat) none) st1 else .bad) := h1
      split at h1
      · rename_i hc
        obtain ⟨a, b⟩ := inR_ok hc
        exact ⟨j, rfl, a, b, fin_same S1 h1 _ walkR_range⟩
      · exact h1.elim
    | _ => exact h1.elim
  | .ref _ :: _ :: _, _, h1 => exact h1.elim
  | .d x :: _ :: _, _, h1 => cases x <;> exact h1.elim
theorem di_range2 {tg s : Expr} {es : List Expr} {m : MA} (hp : ∀ {t : TA}, PA X es t → PI X tg s (iRng2 t)) (h : DA G W X es m) : DI G W X tg s (mItR2 m) := by
  obtain ⟨t, p, sm⟩ := h
  refine ⟨_, hp p, ?_⟩
  intro σ ρ H F ad st R Re S h
  refine simA_bind sm Re S h fun xs vs st1 H1 F1 ad1 _ R1 S1 rv h1 => ?_
  match xs, rv, h1 with
  | [], _, h1 => exact h1.elim
  | [.ref _], _, h1 => exact h1.elim
  | [.d x], _, h1 => cases x <;> exact h1.elim
  | [.ref _, _], _, h1 => exact h1.elim
  | [.d x, .ref _], _, h1 => cases x <;> exact h1.elim
  | [.d x, .d y], .cons r (.cons r2 .nil), h1 =>
    cases r with
    | int i => cases r2 with
      | int j =>
        have h1 : Po G _ H1 F1 ad1 _ (if inR i && inR j then Res.ok (Its.mk (rangeV i (j - i).toNat) none) st1 else .bad) := h1
        split at h1
        · rename_i hc
          rw [Bool.and_eq_true] at hc
          obtain ⟨a, b⟩ := inR_ok hc.1
          obtain ⟨c, d⟩ := inR_ok hc.2
          exact ⟨i, j, rfl, ⟨a, b, c, d⟩, fin_same S1 h1 _ walkR_range⟩
        · exact h1.elim
      | _ => exact h1.elim
    | _ => exact h1.elim
  | .ref _ :: _ :: _ :: _, _, h1 => exact h1.elim
  | .d x :: .ref _ :: _ :: _, _, h1 => cases x <;> exact h1.elim
  | .d x :: .d y :: _ :: _, _, h1 => cases x <;> (try exact h1.elim) <;> cases y <;> exact h1.elim
/-! a new pair each turn -/
theorem walkR_pair {J : It} {F0 : Hp} {ad0 : List Addr} {vs ws : Nat → Option V} {ds : List (D × D)} (G' : Hp → Prop) (wk : Walk J ds.length G' (YPair vs ws)) (hg : ∀ (H F : Hp) (ad : List Addr) (st : Sto), Same F0 F → SR G H F ad st → G' H)
    (hr : ∀ i d, ds[i]? = some d → ∀ x y, vs i = some x → ws i = some y → Rep G F0 x d.1 ∧ Rep G F0 y d.2) : WalkR G J F0 ad0 ⟨ds.map fun d => Va.d (.tup [d.1, d.2]), none⟩ := by
  have hl : (ds.map fun d => Va.d (.tup [d.1, d.2])).length = ds.length := List.length_map _
  refine ⟨fun i H F ad st s _ S _ hi => wk.goes i H (by rw [← hl]; exact hi) (hg _ _ _ _ s S), fun H F ad st s _ S _ => by show J.stop _ _; rw [hl]; exact wk.stops H (hg _ _ _ _ s S), fun i H F ad st v H' s _ S _ hi y => ?_⟩
  have hi : i < ds.length := by rw [← hl]; exact hi
  obtain ⟨T, x, z, rfl, hT, rfl, hx, hz⟩ := wk.yields i H v H' hi (hg _ _ _ _ s S) y
  obtain ⟨r1, r2⟩ := hr i _ (List.getElem?_eq_getElem hi) x z hx hz
  have E := ext_new S (o := .tup [x, z]) hT
  refine ⟨_, _, E, S.new hT, by rw [List.getElem?_map, List.getElem?_eq_getElem hi]; rfl, ?_⟩
  exact .tup (SqT.of upd_same) (.cons ((r1.same s).same E.fz) (.cons ((r2.same s).same E.fz) .nil))
def mItZ (m : MA) : MI := fun ρ st => (m ρ st).bind fun xs st => match xs with
  | [.d (.lst a), .d (.lst b)] => .ok ⟨(a.zip b).map fun d => Va.d (.tup [d.1, d.2]), none⟩ st
  | _ => .bad
theorem walkR_zip {F0 : Hp} {ad0 : List Addr} {p q : Addr} {vs ws : List V} {a b : List D} (h1 : F0 p = some (.lst vs)) (t1 : Reps G F0 vs a) (h2 : F0 q = some (.lst ws)) (t2 : Reps G F0 ws b) : WalkR G (Itz G.K p q) F0 ad0 ⟨(a.zip b).map fun d => Va.d (.tup [d.1, d.2]), none⟩ := by
  refine walkR_pair (ds := a.zip b) (fun H => SqL G.K H p vs ∧ SqL G.K H q ws) (walk_zip (by rw [List.length_zip, t1.length, t2.length])) (fun H F ad st s S => ⟨SqL.of (S.sub _ _ (s _ _ h1)), SqL.of (S.sub _ _ (s _ _ h2))⟩) fun i d e x y hx hy => ?_
  obtain ⟨e1, e2⟩ := List.getElem?_zip_eq_some.mp e
  obtain ⟨x', g1, r1⟩ := t1.get e1
  obtain ⟨y', g2, r2⟩ := t2.get e2
  rw [hx] at g1
  rw [hy] at g2
  cases g1
  cases g2
  exact ⟨r1, r2⟩
theorem di_zip {tg s : Expr} {es : List Expr} {m : MA} (hK : X.K = G.K) (hp : ∀ {t : TA}, PA X es t → PI X tg s (iZip X.K t)) (h : DA G W X es m) : DI G W X tg s (mItZ m) := by
  obtain ⟨t, p, sm⟩ := h
  refine ⟨_, hp p, ?_⟩
  rw [hK]
  intro σ ρ H F ad st R Re S h
  refine simA_bind sm Re S h fun xs vs st1 H1 F1 ad1 _ R1 S1 rv h1 => ?_
  match xs, rv, h1 with
  | [], _, h1 => exact h1.elim
  | [.ref _], _, h1 => exact h1.elim
  | [.d x], _, h1 => cases x <;> exact h1.elim
  | [.ref _, _], _, h1 => exact h1.elim
  | [.d x, .ref _], _, h1 => cases x <;> exact h1.elim
  | [.d x, .d y], .cons r (.cons r2 .nil), h1 =>
    cases r with
    | @lst pa ws da q1 t1 => cases r2 with
      | @lst pb us db q2 t2 =>
        exact ⟨pa, pb, ws, us, rfl, SqL.of (S1.sub _ _ q1), SqL.of (S1.sub _ _ q2), fin_same S1 h1 _ (walkR_zip q1 t1 q2 t2)⟩
      | _ => exact h1.elim
    | _ => exact h1.elim
  | .ref _ :: _ :: _ :: _, _, h1 => exact h1.elim
  | .d x :: .ref _ :: _ :: _, _, h1 => cases x <;> exact h1.elim
  | .d x :: .d y :: _ :: _, _, h1 => cases x <;> (try exact h1.elim) <;> cases y <;> exact h1.elim
/-! for -/
open Classical in
noncomputable def forM (gd : Option (Nat × List Va)) (tg : MG) (b : MS) : List Va → MS
  | [], ρ, st => if gOk gd st then .nx ρ st else .bad
  | x :: xs, ρ, st => if gOk gd st then (match tg x ρ with
    | some ρ1 => (match b ρ1 st with
      | .nx ρ2 st2 => forM gd tg b xs ρ2 st2
      | .ct ρ2 st2 => forM gd tg b xs ρ2 st2
      | .bk ρ2 st2 => .nx ρ2 st2
      | o => o)
    | none => .bad) else .bad
noncomputable def mFor (mi : MI) (tg : MG) (b : MS) : MS := fun ρ st => match mi ρ st with
  | .ok it st => forM it.gd tg b it.xs ρ st
  | .er c fs st => .er c fs ρ st
  | .bad => .bad
theorem Ext.pre' {H F H' F' : Hp} {ad ad' ad0 : List Addr} (p : Pre ad0 ad) (e : Ext H F ad H' F' ad') : Pre ad0 ad' := by
  obtain ⟨zs, rfl⟩ := p
  obtain ⟨ys, h⟩ := e.pre
  exact ⟨zs ++ ys, by rw [h, List.append_assoc]⟩
theorem sim_for {vs : List Nat} {wi : TI} {g : TG} {tb : TS} {mi : MI} {mg : MG} {mb : MS} (hi : SimI G W wi mi) (hg : SimG G vs g mg) (hb : SimS G W tb mb) : SimS G W (tFor wi g tb) (mFor mi mg mb) := by
  intro σ ρ H F ad st D Re S h
  refine hi σ ρ H F ad st _ Re S ?_
  unfold mFor at h
  revert h
  generalize mi ρ st = r
  intro h
  cases r with
  | bad => exact h
  | er c fs st1 => exact fun H' F' ad' cls d e S' z => h H' F' ad' σ cls d e S' (Re.ext e) z
  | ok it st1 =>
    intro H1 F1 ad1 e1 S1 J wk
    have h1 : PoS G W H1 F1 ad1 D (forM it.gd mg mb it.xs ρ st1) := PoS.from e1 h
    refine ⟨fun i m σ' H' => ∃ ρ' F' ad' st', Same F1 F' ∧ Pre ad1 ad' ∧ RelE G F' ad' σ' ρ' ∧ SR G H' F' ad' st' ∧ m = it.xs.length - i ∧ i ≤ it.xs.length ∧ PoS G W H' F' ad' D (forM it.gd mg mb (it.xs.drop i) ρ' st'), ⟨_, ρ, F1, ad1, st1, Same.refl _, ⟨[], (List.append_nil _).symm⟩, Re.ext e1, S1, rfl, Nat.zero_le _, h1⟩, ?_⟩
    rintro i m σ' H' ⟨ρ', F', ad', st', s', p', R', S', rfl, hle, hp⟩
    by_cases hlt : i < it.xs.length
    · have hd : it.xs.drop i = it.xs[i] :: it.xs.drop (i + 1) := List.drop_eq_getElem_cons hlt
      rw [hd] at hp
      unfold forM at hp
      split at hp
      · rename_i gk
        refine .inr ⟨wk.goes i H' F' ad' st' s' p' S' gk hlt, fun σ2 H2 => ∃ m', m' < it.xs.length - i ∧ ∃ ρ' F' ad' st', Same F1 F' ∧ Pre ad1 ad' ∧ RelE G F' ad' σ2 ρ' ∧ SR G H2 F' ad' st' ∧ m' = it.xs.length - (i + 1) ∧ i + 1 ≤ it.xs.length ∧ PoS G W H2 F' ad' D (forM it.gd mg mb (it.xs.drop (i + 1)) ρ' st'), fun σ2 H2 z => z, fun v H2 y => ?_⟩
        obtain ⟨F2, x, e2, S2, hx, rx⟩ := wk.yields i H' F' ad' st' v H2 s' p' S' gk hlt y
        rw [List.getElem?_eq_getElem hlt] at hx
        cases hx
        cases z : mg it.xs[i] ρ' with
        | none => rw [z] at hp; exact hp.elim
        | some ρ2 =>
          rw [z] at hp
          refine hg v _ σ' ρ' ρ2 H2 F2 ad' st' _ rx (R'.ext e2) S2 z fun σ3 _ R3 => ?_
          refine hb σ3 ρ2 H2 F2 ad' st' _ R3 S2 ?_
          replace hp : PoS G W H' F' ad' D (match mb ρ2 st' with
            | .nx ρ2 st2 => forM it.gd mg mb (it.xs.drop (i + 1)) ρ2 st2
            | .ct ρ2 st2 => forM it.gd mg mb (it.xs.drop (i + 1)) ρ2 st2
            | .bk ρ2 st2 => .nx ρ2 st2
            | o => o) := hp
          replace hp := PoS.from e2 hp
          have s2 : Same F1 F2 := s'.trans e2.fz
          revert hp
          generalize mb ρ2 st' = o
          intro hp
          cases o with
          | nx ρ3 st3 => exact fun H4 F4 ad4 σ4 e4 S4 R4 => ⟨_, by omega, ρ3, F4, ad4, st3, s2.trans e4.fz, Ext.pre' p' e4, R4, S4, rfl, hlt, PoS.from e4 hp⟩
          | ct ρ3 st3 => exact fun H4 F4 ad4 σ4 e4 S4 R4 => ⟨_, by omega, ρ3, F4, ad4, st3, s2.trans e4.fz, Ext.pre' p' e4, R4, S4, rfl, hlt, PoS.from e4 hp⟩
          | bk ρ3 st3 => exact hp
          | rt v3 st3 => exact hp
          | er c3 fs3 ρ3 st3 => exact hp
          | bad => exact hp
      · exact hp.elim
    · have e : i = it.xs.length := by omega
      subst e
      rw [List.drop_length] at hp
      unfold forM at hp
      split at hp
      · rename_i gk
        exact .inl ⟨wk.stops H' F' ad' st' s' p' S' gk, hp H' F' ad' σ' Ext.refl S' R'⟩
      · exact hp.elim
theorem ds_for {vs : List Nat} {tg iter : Expr} {body : List Stmt} {pos : Pos} {mi : MI} {mg : MG} {mb : MS} (hp : PassesOwn (model X.prog X.w) X.A X.env X.xe) (hc : X.calm = true) (hi : DI G W X tg iter mi) (hg : DG G X vs tg mg) (hb : DSs G W X body mb)
    (hs : ∀ x, foldedSetIterable iter X.env x = pure x := by intro _; rfl) : DS G W X (.For tg iter body [] pos) (mFor mi mg mb) := by
  obtain ⟨wi, pi, si⟩ := hi
  obtain ⟨g, pg, sg⟩ := hg
  obtain ⟨tb, pb, sb⟩ := hb
  exact ⟨_, ps_for hp hc pi pg pb hs, sim_for si sg sb⟩
/-! while -/
def whileF (c : MT) (b : MS) : Nat → MS
  | 0, _, _ => .bad
  | n + 1, ρ, st => outT (c ρ st) ρ fun x st => if x then (match b ρ st with
    | .nx ρ st => whileF c b n ρ st
    | .ct ρ st => whileF c b n ρ st
    | .bk ρ st => .nx ρ st
    | o => o) else .nx ρ st
theorem whileF_succ {c : MT} {b : MS} : ∀ {n : Nat} {ρ : Ev} {st : Sto}, whileF c b n ρ st ≠ .bad → whileF c b (n + 1) ρ st = whileF c b n ρ st
  | 0, _, _, h => absurd rfl h
  | n + 1, ρ, st, h => by
    rw [whileF] at h
    rw [whileF.eq_2 c b ρ st (n + 1), whileF.eq_2 c b ρ st n]
    revert h
    generalize c ρ st = r
    intro h
    cases r with
    | bad => rfl
    | er c fs st1 => rfl
    | ok x st1 =>
      cases x with
      | false => rfl
      | true =>
        simp only [outT, if_true] at h ⊢
        revert h
        generalize b ρ st1 = o
        intro h
        cases o with
        | nx ρ2 st2 => exact whileF_succ h
        | ct ρ2 st2 => exact whileF_succ h
        | _ => rfl
theorem whileF_le {c : MT} {b : MS} {n : Nat} {ρ : Ev} {st : Sto} (h : whileF c b n ρ st ≠ .bad) : ∀ k, whileF c b (n + k) ρ st = whileF c b n ρ st
  | 0 => rfl
  | k + 1 => by
    have e := whileF_le h k
    rw [← Nat.add_assoc, whileF_succ (by rw [e]; exact h), e]
open Classical in
noncomputable def mWhile (c : MT) (b : MS) : MS := fun ρ st => if h : ∃ n, whileF c b n ρ st ≠ .bad then whileF c b (Classical.choose h) ρ st else .bad
theorem mWhile_eq {c : MT} {b : MS} {n : Nat} {ρ : Ev} {st : Sto} (h : whileF c b n ρ st ≠ .bad) : mWhile c b ρ st = whileF c b n ρ st := by
  unfold mWhile
  rw [dif_pos ⟨n, h⟩]
  have h2 := Classical.choose_spec (⟨n, h⟩ : ∃ n, whileF c b n ρ st ≠ .bad)
  generalize Classical.choose (⟨n, h⟩ : ∃ n, whileF c b n ρ st ≠ .bad) = k at h2
  rw [← whileF_le h2 n, ← whileF_le h k, Nat.add_comm]
theorem mWhile_none {c : MT} {b : MS} {ρ : Ev} {st : Sto} (h : mWhile c b ρ st ≠ .bad) : ∃ n, mWhile c b ρ st = whileF c b n ρ st := by
  by_cases e : ∃ n, whileF c b n ρ st ≠ .bad
  · obtain ⟨n, e⟩ := e
    exact ⟨n, mWhile_eq e⟩
  · exact absurd (by unfold mWhile; rw [dif_neg e]) h
/-- one turn -/
theorem mWhile_step (c : MT) (b : MS) (ρ : Ev) (st : Sto) : mWhile c b ρ st = outT (c ρ st) ρ fun x st => if x then (match b ρ st with
    | .nx ρ st => mWhile c b ρ st
    | .ct ρ st => mWhile c b ρ st
    | .bk ρ st => .nx ρ st
    | o => o) else .nx ρ st := by
  have one : ∀ n, whileF c b (n + 1) ρ st = outT (c ρ st) ρ fun x st => if x then (match b ρ st with
    | .nx ρ st => whileF c b n ρ st
    | .ct ρ st => whileF c b n ρ st
    | .bk ρ st => .nx ρ st
    | o => o) else .nx ρ st := fun n => by rw [whileF]
  by_cases e : ∃ n, whileF c b n ρ st ≠ .bad
  · obtain ⟨n, e⟩ := e
    rw [mWhile_eq e]
    cases n with
    | zero => exact absurd rfl e
    | succ n =>
      rw [one n] at e ⊢
      revert e
      generalize c ρ st = r
      intro e
      cases r with
      | bad => rfl
      | er c fs st1 => rfl
      | ok x st1 =>
        cases x with
        | false => rfl
        | true =>
          simp only [outT, if_true] at e ⊢
          revert e
          generalize b ρ st1 = o
          intro e
          cases o with
          | nx ρ2 st2 => exact (mWhile_eq e).symm
          | ct ρ2 st2 => exact (mWhile_eq e).symm
          | _ => rfl
  · have hb : ∀ n, whileF c b n ρ st = .bad := fun n => Classical.byContradiction fun z => e ⟨n, z⟩
    have hm : mWhile c b ρ st = .bad := by unfold mWhile; rw [dif_neg e]
    rw [hm]
    have h2 : ∀ n, (outT (c ρ st) ρ fun x st => if x then (match b ρ st with
      | .nx ρ st => whileF c b n ρ st
      | .ct ρ st => whileF c b n ρ st
      | .bk ρ st => .nx ρ st
      | o => o) else .nx ρ st) = .bad := fun n => by rw [← one n]; exact hb (n + 1)
    revert h2
    generalize c ρ st = r
    intro h2
    cases r with
    | bad => rfl
    | er c fs st1 => exact (h2 0).symm
    | ok x st1 =>
      cases x with
      | false => exact (h2 0).symm
      | true =>
        simp only [outT, if_true] at h2 ⊢
        revert h2
        generalize b ρ st1 = o
        intro h2
        have go : ∀ ρ2 st2, (∀ n, whileF c b n ρ2 st2 = .bad) → mWhile c b ρ2 st2 = .bad := fun ρ2 st2 z => by
          unfold mWhile
          rw [dif_neg fun ⟨n, hn⟩ => hn (z n)]
        cases o with
        | nx ρ2 st2 => exact (go ρ2 st2 h2).symm
        | ct ρ2 st2 => exact (go ρ2 st2 h2).symm
        | _ => exact (h2 0).symm
theorem sim_while {tc : TT} {tb : TS} {mc : MT} {mb : MS} (hc : SimT G W tc mc) (hb : SimS G W tb mb) : SimS G W (tWhile tc tb) (mWhile mc mb) := by
  intro σ ρ H F ad st D Re S h
  by_cases e0 : mWhile mc mb ρ st = .bad
  · rw [e0] at h
    exact h.elim
  obtain ⟨n, en⟩ := mWhile_none e0
  rw [en] at h
  refine ⟨fun m σ' H' => ∃ ρ' F' ad' st', RelE G F' ad' σ' ρ' ∧ SR G H' F' ad' st' ∧ PoS G W H' F' ad' D (whileF mc mb m ρ' st'), ⟨n, ρ, F, ad, st, Re, S, h⟩, ?_⟩
  rintro m σ' H' ⟨ρ', F', ad', st', R', S', hp⟩
  cases m with
  | zero => exact hp.elim
  | succ m =>
    rw [whileF] at hp
    refine simT_out hc R' S' hp fun x st1 H1 F1 ad1 _ R1 S1 h1 => ?_
    cases x with
    | false => rw [if_neg Bool.false_ne_true] at h1 ⊢; exact h1 H1 F1 ad1 σ' Ext.refl S1 R1
    | true =>
      rw [if_pos rfl] at h1 ⊢
      refine ⟨fun σ2 H2 => ∃ m', m' < m + 1 ∧ ∃ ρ' F' ad' st', RelE G F' ad' σ2 ρ' ∧ SR G H2 F' ad' st' ∧ PoS G W H2 F' ad' D (whileF mc mb m' ρ' st'), fun σ2 H2 z => z, ?_⟩
      refine hb σ' ρ' H1 F1 ad1 st1 _ R1 S1 ?_
      revert h1
      generalize mb ρ' st1 = o
      intro h1
      cases o with
      | nx ρ3 st3 => exact fun H4 F4 ad4 σ4 e4 S4 R4 => ⟨m, by omega, ρ3, F4, ad4, st3, R4, S4, PoS.from e4 h1⟩
      | ct ρ3 st3 => exact fun H4 F4 ad4 σ4 e4 S4 R4 => ⟨m, by omega, ρ3, F4, ad4, st3, R4, S4, PoS.from e4 h1⟩
      | bk ρ3 st3 => exact h1
      | rt v3 st3 => exact h1
      | er c3 fs3 ρ3 st3 => exact h1
      | bad => exact h1
theorem ds_while {c : Expr} {body : List Stmt} {pos : Pos} {mc : MT} {mb : MS} (hp : PassesOwn (model X.prog X.w) X.A X.env X.xe) (hc : DT G W X c mc) (hb : DSs G W X body mb) : DS G W X (.While c body [] pos) (mWhile mc mb) := by
  obtain ⟨tc, pc, sc⟩ := hc
  obtain ⟨tb, pb, sb⟩ := hb
  exact ⟨_, ps_while hp pc pb, sim_while sc sb⟩
end

/-! ### comprehensions -/
section
variable {G : Ga} {W : L2.WX} {X : Cx}
theorem uniE {ι : Type} {Y : ι → Cx} {e : Expr} {m : ME} (h : ∀ i, DE G W (Y i) e m) : ∃ t, (∀ i, PE (Y i) e t) ∧ SimE G W t m := by
  refine ⟨fun σ H Q => ∀ i, ∃ t, PE (Y i) e t ∧ t σ H Q, fun i => ⟨fun pins s σ H Q I z => ?_⟩, fun σ ρ H F ad st Q R S z i => ?_⟩
  · obtain ⟨t, p, z⟩ := z i
    exact p.run pins s σ H Q I z
  · obtain ⟨t, p, s⟩ := h i
    exact ⟨t, p, s σ ρ H F ad st Q R S z⟩
def DTs (G : Ga) (W : L2.WX) (X : Cx) (es : List Expr) (m : MT) : Prop := ∃ t, PTs X es t ∧ SimT G W t m
def mYes : MT := fun _ st => .ok true st
theorem dts_nil : DTs G W X [] mYes := ⟨_, pts_nil, fun σ ρ H F ad st Q R S h => fin_same S h⟩
theorem dts_one {c : Expr} {m : MT} (h : DT G W X c m) : DTs G W X [c] m := by
  obtain ⟨t, p, s⟩ := h
  exact ⟨t, pts_one p, s⟩
theorem uniT {ι : Type} {Y : ι → Cx} {e : List Expr} {m : MT} (h : ∀ i, DTs G W (Y i) e m) : ∃ t, (∀ i, PTs (Y i) e t) ∧ SimT G W t m := by
  refine ⟨fun σ H Q => ∀ i, ∃ t, PTs (Y i) e t ∧ t σ H Q, fun i => ⟨fun pins s σ H Q I z => ?_⟩, fun σ ρ H F ad st Q R S z i => ?_⟩
  · obtain ⟨t, p, z⟩ := z i
    exact p.run pins s σ H Q I z
  · obtain ⟨t, p, s⟩ := h i
    exact ⟨t, p, s σ ρ H F ad st Q R S z⟩
theorem uniSs {ι : Type} {Y : ι → Cx} {e : List Stmt} {m : MS} (h : ∀ i, DSs G W (Y i) e m) : ∃ t, (∀ i, PSs (Y i) e t) ∧ SimS G W t m := by
  refine ⟨fun D σ H => ∀ i, ∃ t, PSs (Y i) e t ∧ t D σ H, fun i => ⟨fun pins s σ H D I z => ?_⟩, fun σ ρ H F ad st D R S z i => ?_⟩
  · obtain ⟨t, p, z⟩ := z i
    exact p.run pins s σ H D I z
  · obtain ⟨t, p, s⟩ := h i
    exact ⟨t, p, s σ ρ H F ad st D R S z⟩
theorem uniG {ι : Type} {Y : ι → Cx} {vs : List Nat} {e : Expr} {m : MG} (h : ∀ i, DG G (Y i) vs e m) : ∃ t, (∀ i, PG (Y i) e t) ∧ SimG G vs t m := by
  refine ⟨fun v σ H Q => ∀ i, ∃ t, PG (Y i) e t ∧ t v σ H Q, fun i => ⟨fun pins s σ H v u Q I r z => ?_⟩, fun v x σ ρ ρ' H F ad st Q r R S z q i => ?_⟩
  · obtain ⟨t, p, z⟩ := z i
    exact p.run pins s σ H v u Q I r z
  · obtain ⟨t, p, s⟩ := h i
    exact ⟨t, p, s v x σ ρ ρ' H F ad st Q r R S z q⟩
def wipeE (ρ : Ev) : List Nat → Ev
  | [] => ρ
  | i :: is => wipeE (ρ.set i none) is
theorem wipeE_len : ∀ {is : List Nat} {ρ : Ev}, (wipeE ρ is).length = ρ.length
  | [], _ => rfl
  | i :: is, ρ => by
    show (wipeE (ρ.set i none) is).length = _
    rw [wipeE_len, List.length_set]
theorem wipeE_some {i : Nat} {d : Va} : ∀ {is : List Nat} {ρ : Ev}, (wipeE ρ is)[i]? = some (some d) → ρ[i]? = some (some d) ∧ i ∉ is
  | [], _, h => ⟨h, by simp⟩
  | j :: is, ρ, h => by
    obtain ⟨h1, h2⟩ := wipeE_some (is := is) (ρ := ρ.set j none) h
    by_cases e : j = i
    · subst e
      have hl : j < ρ.length := by
        have := (List.getElem?_eq_some_iff.mp h1).1
        rw [List.length_set] at this
        exact this
      rw [List.getElem?_set_self hl] at h1
      cases h1
    · rw [List.getElem?_set_ne e] at h1
      exact ⟨h1, by simp [h2]; exact fun z => e z.symm⟩
theorem stb_wipe (hs : G.Stb) {F : Hp} {ad : List Addr} : ∀ {vs : List Nat} {σ : L2.St}, G.jv F ad σ → G.jv F ad (wipe σ vs)
  | [], σ, h => h
  | i :: vs, σ, h => by
    first
      | exact stb_wipe hs (vs := vs) (hs _ _ _ i none h)
      | (unfold wipe; exact stb_wipe hs (vs := vs) (hs _ _ _ i none h))
      | (unfold wipe; exact hs _ _ _ i none (stb_wipe hs (vs := vs) h))
theorem RelE.wipe {F : Hp} {ad : List Addr} {σ : L2.St} {ρ : Ev} {vs : List Nat} (hs : G.Stb) (R : RelE G F ad σ ρ) : RelE G F ad (L2.wipe σ vs) (wipeE ρ vs) := by
  refine ⟨by rw [wipe_length, wipeE_len, R.len], fun i d e => ?_, stb_wipe hs R.j⟩
  obtain ⟨h1, h2⟩ := wipeE_some e
  obtain ⟨v, h3, h4⟩ := R.at_ i d h1
  exact ⟨v, by rw [wipe_out h2]; exact h3, h4⟩
theorem wipe_in {i : Nat} : ∀ {vs : List Nat} {σ : L2.St}, i ∈ vs → i < σ.length → (wipe σ vs)[i]? = some none
  | [], _, h, _ => by simp at h
  | j :: vs, σ, h, hl => by
    have key : (wipe σ (j :: vs))[i]? = (wipe (σ.set j none) vs)[i]? ∨ (wipe σ (j :: vs))[i]? = ((wipe σ vs).set j none)[i]? := by
      first
        | exact .inl rfl
        | exact .inr rfl
        | (unfold wipe; exact .inl rfl)
        | (unfold wipe; exact .inr rfl)
    by_cases hi : i ∈ vs
    · rcases key with k | k
      · rw [k]; exact wipe_in hi (by rw [List.length_set]; exact hl)
      · rw [k]
        by_cases e : j = i
        · subst e; rw [List.getElem?_set_self (by rw [wipe_length]; exact hl)]
        · rw [List.getElem?_set_ne e]; exact wipe_in hi hl
    · have e : i = j := by
        rcases List.mem_cons.mp h with e | e
        · exact e
        · exact absurd e hi
      subst e
      rcases key with k | k
      · rw [k, wipe_out hi, List.getElem?_set_self hl]
      · rw [k, List.getElem?_set_self (by rw [wipe_length]; exact hl)]
theorem wipe_agree {vs : List Nat} {σ σ2 : L2.St} (h : Agree vs (wipe σ vs) σ2) : wipe σ2 vs = wipe σ vs := by
  apply List.ext_getElem?
  intro i
  have hl : σ2.length = σ.length := by rw [h.1, wipe_length]
  by_cases hi : i ∈ vs
  · by_cases hn : i < σ.length
    · rw [wipe_in hi (by rw [hl]; exact hn), wipe_in hi hn]
    · rw [List.getElem?_eq_none (by rw [wipe_length]; omega), List.getElem?_eq_none (by rw [wipe_length]; omega)]
  · rw [wipe_out hi, h.2 i hi]
open Classical in
noncomputable def compM (gd : Option (Nat × List Va)) (tg : MG) (tt : MT) (te : ME) (ρ0 : Ev) : List Va → Sto → Res (List Va)
  | [], st => if gOk gd st then .ok [] st else .bad
  | x :: xs, st => if gOk gd st then (match tg x ρ0 with
    | some ρ => (noEr (tt ρ st)).bind fun b st => if b then (noEr (te ρ st)).bind fun y st => (compM gd tg tt te ρ0 xs st).bind fun ys st => .ok (y :: ys) st else compM gd tg tt te ρ0 xs st
    | none => .bad) else .bad
theorem Res.bind_assoc {α β γ : Type} (r : Res α) (f : α → Sto → Res β) (g : β → Sto → Res γ) : (r.bind f).bind g = r.bind fun a st => (f a st).bind g := by cases r <;> rfl
/-- an object that we do not know of may change -/
theorem SR.other {H F : Hp} {ad : List Addr} {st : Sto} {p : Addr} {o : HO} (S : SR G H F ad st) (hp : p ∉ ad) (hf : F p = none) : SR G (upd H p o) F ad st := by
  refine ⟨fun b u h => ?_, S.len, S.nd, S.dis, fun n a m h hm => ?_⟩
  · rw [upd_ne (ne_of_none h hf)]
    exact S.sub b u h
  · have ne : a ≠ p := fun e => hp (by rw [← e]; exact List.mem_of_getElem? h)
    have hz := S.ob n a m h hm
    cases m with
    | lst ds => obtain ⟨vs, z, r⟩ := hz; exact ⟨vs, by rw [upd_ne ne]; exact z, r⟩
    | obj c fs => obtain ⟨hc, dx, vfs, z, r⟩ := hz; exact ⟨hc, dx, vfs, by rw [upd_ne ne]; exact z, r⟩
    | dct kvs => exact hz.elim
theorem Ext.other {H0 F0 H F : Hp} {ad0 ad : List Addr} {p : Addr} {o : HO} (e : Ext H0 F0 ad0 H F ad) (h0 : H0 p = none) : Ext H0 F0 ad0 (upd H p o) F ad := by
  refine ⟨e.pre, e.fz, fun b u hb h => ?_, fun b h => ?_, e.nw, e.na⟩
  · rw [upd_ne (ne_of_none h h0)]
    exact e.kp b u hb h
  · by_cases q : b = p
    · rw [q]; exact h0
    · rw [upd_ne q] at h; exact e.dm b h
theorem lc_run {J : It} {g : TG} {tt : TT} {te : TE} {vs : List Nat} {σ : L2.St} {ρ : Ev} {H1 F1 : Hp} {ad1 : List Addr} {st1 : Sto} {it : Its} {mg : MG} {mt : MT} {me : ME} {β : Type} {Wv : Value → Option Addr → Hp → Prop} {P : β → Sto → Hp → Hp → List Addr → Prop} {k : List Va → Sto → Res β} {L : Addr} {Q : Hp → Prop}
    (hs : G.Stb) (wk : WalkR G J F1 ad1 it) (hg : SimG G vs g mg) (ht : SimT G (fun _ _ _ _ => False) tt mt) (he : SimE G (fun _ _ _ _ => False) te me) (Re : RelE G F1 ad1 σ ρ) (S1 : SR G H1 F1 ad1 st1) (hL : H1 L = none) (hcap : it.xs.length ≤ cap)
    (h : Po G Wv H1 F1 ad1 P ((compM it.gd mg mt me (wipeE ρ vs) it.xs st1).bind k))
    (fin : ∀ H F ad st ys ws, Ext H1 F1 ad1 H F ad → SR G H F ad st → L ∉ ad → F L = none → H L = some (.lst ws) → RepVs G F ad ws ys → ys.length ≤ cap → Po G Wv H1 F1 ad1 P (k ys st) → Q H) :
    ∃ W : Nat → Nat → Hp → Prop, (∃ m, W 0 m (upd H1 L (.lst []))) ∧ ∀ i m H, W i m H →
      (J.stop i H ∧ Q H) ∨ (J.go i H ∧ ∃ Nx : Hp → Prop, (∀ H', Nx H' → ∃ m', m' < m ∧ W (i + 1) m' H') ∧ ∀ x H', J.yld i H x H' → g x (wipe σ vs) H' fun σ2 H2 => wipe σ2 vs = wipe σ vs ∧ tt σ2 H2 fun b H3 =>
        if b = true then te σ2 H3 fun y H4 => ∃ acc, H4 L = some (.lst acc) ∧ acc.length < sizeLine ∧ Nx (upd H4 L (.lst (acc ++ [y]))) else Nx H3) := by
  have fL : F1 L = none := S1.sub.free hL
  have aL : L ∉ ad1 := fun z => by
    obtain ⟨u, hu⟩ := S1.there z
    rw [hL] at hu
    cases hu
  let Wt : Nat → Hp → Prop := fun i H => ∃ F ad st ys ws, i ≤ it.xs.length ∧ Ext H1 F1 ad1 H F ad ∧ SR G H F ad st ∧ L ∉ ad ∧ F L = none ∧ H L = some (.lst ws) ∧ RepVs G F ad ws ys ∧ ys.length ≤ i ∧
    Po G Wv H1 F1 ad1 P ((compM it.gd mg mt me (wipeE ρ vs) (it.xs.drop i) st).bind fun zs st' => k (ys ++ zs) st')
  refine ⟨fun i m H => m = it.xs.length - i ∧ Wt i H, ⟨_, rfl, F1, ad1, st1, [], [], Nat.zero_le _, Ext.refl.other hL, S1.other aL fL, aL, fL, upd_same, .nil, Nat.le_refl _, h⟩, ?_⟩
  rintro i m H ⟨rfl, F, ad, st, ys, ws, hle, E, S, na, nf, hl, rw, hy, hp⟩
  have pre : Pre ad1 ad := E.pre
  by_cases hlt : i < it.xs.length
  · have hd : it.xs.drop i = it.xs[i] :: it.xs.drop (i + 1) := List.drop_eq_getElem_cons hlt
    rw [hd] at hp
    unfold compM at hp
    split at hp
    · rename_i gk
      refine .inr ⟨wk.goes i H F ad st E.fz pre S gk hlt, fun H' => ∃ m', m' < it.xs.length - i ∧ m' = it.xs.length - (i + 1) ∧ Wt (i + 1) H', fun H' z => z, fun v H' y => ?_⟩
      obtain ⟨F2, x, e2, S2, hx, rx⟩ := wk.yields i H F ad st v H' E.fz pre S gk hlt y
      rw [List.getElem?_eq_getElem hlt] at hx
      cases hx
      have keepL : ∀ {Ha Fa Hb Fb : Hp} {ada adb : List Addr} {zs : List V}, Ext Ha Fa ada Hb Fb adb → L ∉ ada → Fa L = none → Ha L = some (.lst zs) → L ∉ adb ∧ Fb L = none ∧ Hb L = some (.lst zs) := fun {Ha Fa Hb Fb ada adb zs} e n f hh => by
        refine ⟨fun z => ?_, ?_, e.kp _ _ n hh⟩
        · rcases e.na _ z with z | z
          · exact n z
          · rw [hh] at z; cases z
        · cases q : Fb L with
          | none => rfl
          | some o =>
            rcases e.nw _ _ q with z | z
            · rw [f] at z; cases z
            · rw [hh] at z; cases z
      obtain ⟨na2, nf2, hl2⟩ := keepL e2 na nf hl
      cases z : mg it.xs[i] (wipeE ρ vs) with
      | none => rw [z] at hp; exact hp.elim
      | some ρ2 =>
        rw [z] at hp
        have Rw : RelE G F2 ad (wipe σ vs) (wipeE ρ vs) := ((Re.ext E).wipe hs).ext e2
        refine hg v _ (wipe σ vs) (wipeE ρ vs) ρ2 H' F2 ad st _ rx Rw S2 z fun σ3 ag R3 => ⟨wipe_agree ag, ?_⟩
        refine ht σ3 ρ2 H' F2 ad st _ R3 S2 ?_
        replace hp : Po G Wv H1 F1 ad1 P (((noEr (mt ρ2 st)).bind fun b st => if b then (noEr (me ρ2 st)).bind fun y st => (compM it.gd mg mt me (wipeE ρ vs) (it.xs.drop (i + 1)) st).bind fun ys st => .ok (y :: ys) st else compM it.gd mg mt me (wipeE ρ vs) (it.xs.drop (i + 1)) st).bind fun zs st' => k (ys ++ zs) st') := hp
        revert hp
        generalize mt ρ2 st = rt
        intro hp
        cases rt with
        | bad => exact hp.elim
        | er c fs st' => exact hp.elim
        | ok b st2 =>
          intro H3 F3 ad3 e3 S3
          obtain ⟨na3, nf3, hl3⟩ := keepL e3 na2 nf2 hl2
          have rw3 : RepVs G F3 ad3 ws ys := RepVs.ext e3 (RepVs.ext e2 rw)
          have E3 := (E.trans e2).trans e3
          cases b with
          | false =>
            rw [if_neg Bool.false_ne_true]
            exact ⟨_, by omega, rfl, F3, ad3, st2, ys, ws, hlt, E3, S3, na3, nf3, hl3, rw3, by omega, hp⟩
          | true =>
            rw [if_pos rfl]
            refine he σ3 ρ2 H3 F3 ad3 st2 _ (R3.ext e3) S3 ?_
            replace hp : Po G Wv H1 F1 ad1 P (((noEr (me ρ2 st2)).bind fun y st => (compM it.gd mg mt me (wipeE ρ vs) (it.xs.drop (i + 1)) st).bind fun ys st => .ok (y :: ys) st).bind fun zs st' => k (ys ++ zs) st') := hp
            revert hp
            generalize me ρ2 st2 = ry
            intro hp
            cases ry with
            | bad => exact hp.elim
            | er c fs st' => exact hp.elim
            | ok y st3 =>
              intro H4 F4 ad4 e4 S4 w rw4
              obtain ⟨na4, nf4, hl4⟩ := keepL e4 na3 nf3 hl3
              refine ⟨ws, hl4, by rw [Paired.length rw3]; exact Nat.lt_of_le_of_lt hy (Nat.lt_of_lt_of_le hlt (Nat.le_trans hcap (by decide))), _, by omega, rfl, F4, ad4, st3, ys ++ [y], ws ++ [w], hlt, (E3.trans e4).other hL, S4.other na4 nf4, na4, nf4, upd_same, Paired.append (RepVs.ext e4 rw3) (.cons rw4 .nil), by rw [List.length_append]; simp; exact hy, ?_⟩
              replace hp : Po G Wv H1 F1 ad1 P (((compM it.gd mg mt me (wipeE ρ vs) (it.xs.drop (i + 1)) st3).bind fun ys st => .ok (y :: ys) st).bind fun zs st' => k (ys ++ zs) st') := hp
              rw [Res.bind_assoc] at hp
              have e : (fun (a : List Va) (st : Sto) => (Res.ok (y :: a) st).bind fun zs st' => k (ys ++ zs) st') = fun zs st' => k ((ys ++ [y]) ++ zs) st' := by
                funext a st'
                show k (ys ++ (y :: a)) st' = _
                rw [List.append_assoc]
                rfl
              rw [e] at hp
              exact hp
    · exact hp.elim
  · have e : i = it.xs.length := by omega
    subst e
    rw [List.drop_length] at hp
    unfold compM at hp
    split at hp
    · rename_i gk
      refine .inl ⟨wk.stops H F ad st E.fz pre S gk, fin H F ad st ys ws E S na nf hl rw (Nat.le_trans hy hcap) ?_⟩
      replace hp : Po G Wv H1 F1 ad1 P (k (ys ++ []) st) := hp
      rw [List.append_nil] at hp
      exact hp
    · exact hp.elim
noncomputable def mLcG (own : List Nat) (mi : MI) (tg : MG) (tt : MT) (te : ME) : MA := fun ρ st => (mi ρ st).bind fun it st => if it.xs.length ≤ cap then compM it.gd tg tt te (wipeE ρ own) it.xs st else .bad
noncomputable def mLc (own : List Nat) (mi : MI) (tg : MG) (tt : MT) (te : ME) : ME := fun ρ st => (mLcG own mi tg tt te ρ st).bind fun ys st => match ds? ys with
  | some ds => .ok (.d (.lst ds)) st
  | none => .bad
noncomputable def mLcC (own : List Nat) (mi : MI) (tg : MG) (tt : MT) (te : ME) : ME := fun ρ st => (mLcG own mi tg tt te ρ st).bind fun ys st => .ok (.ref st.length) (st ++ [.lst ys])
theorem simI_bind {tt : TI} {mt : MI} {β : Type} {P : β → Sto → Hp → Hp → List Addr → Prop} (ht : SimI G W tt mt) {k : Its → Sto → Res β} {σ : L2.St} {ρ : Ev} {H F : Hp} {ad : List Addr} {st : Sto} {Q : It → Hp → Prop} (R : RelE G F ad σ ρ) (S : SR G H F ad st)
    (h : Po G (fun c d H' => W c d σ H') H F ad P ((mt ρ st).bind k)) (q : ∀ x J st1 H1 F1 ad1, RelE G F1 ad1 σ ρ → SR G H1 F1 ad1 st1 → WalkR G J F1 ad1 x → Po G (fun c d H' => W c d σ H') H1 F1 ad1 P (k x st1) → Q J H1) : tt σ H Q := by
  refine ht σ ρ H F ad st _ R S ?_
  have h1 := Po.bind h
  revert h1
  generalize mt ρ st = ra
  intro h1
  cases ra with
  | bad => exact h1
  | er c fs st1 => exact h1
  | ok x st1 => exact fun H1 F1 ad1 e1 S1 J wk => q x J st1 H1 F1 ad1 (R.ext e1) S1 wk (h1 H1 F1 ad1 e1 S1)
theorem sim_lc {vs : List Nat} {wi : TI} {g : TG} {tt : TT} {te : TE} {mi : MI} {mg : MG} {mt : MT} {me : ME} (hs : G.Stb) (hi : SimI G W wi mi) (hg : SimG G vs g mg) (ht : SimT G (fun _ _ _ _ => False) tt mt) (he : SimE G (fun _ _ _ _ => False) te me) : SimE G W (tLc wi g tt te vs) (mLc vs mi mg mt me) := by
  intro σ ρ H F ad st Q Re S h
  unfold mLc mLcG at h
  rw [Res.bind_assoc] at h
  refine simI_bind hi Re S h fun it J st1 H1 F1 ad1 R1 S1 wk h1 => ?_
  intro L hL
  replace h1 : Po G _ H1 F1 ad1 (QV G Q) ((if it.xs.length ≤ cap then compM it.gd mg mt me (wipeE ρ vs) it.xs st1 else .bad).bind fun ys st => match ds? ys with
    | some ds => .ok (.d (.lst ds)) st
    | none => .bad) := h1
  split at h1
  · rename_i hc
    refine lc_run hs wk hg ht he R1 S1 hL hc h1 fun H2 F2 ad2 st2 ys ws E2 S2 na nf hl rw _ h2 => ?_
    cases z : ds? ys with
    | none => rw [z] at h2; exact h2.elim
    | some ds =>
      rw [z] at h2
      have sf : Same F2 (upd F2 L (.lst ws)) := fun b o hb => by rw [upd_ne (ne_of_none hb nf)]; exact hb
      have S3 : SR G H2 (upd F2 L (.lst ws)) ad2 st2 := by
        refine ⟨fun b o hb => ?_, S2.len, S2.nd, fun a ha => ?_, fun n a m ha hm => ?_⟩
        · by_cases e : b = L
          · rw [e, upd_same] at hb
            rw [e, hl]; exact hb
          · rw [upd_ne e] at hb; exact S2.sub b o hb
        · rw [upd_ne (fun e => na (by rw [← e]; exact ha))]
          exact S2.dis a ha
        · have hz := S2.ob n a m ha hm
          cases m with
          | lst ds => obtain ⟨vs, z, r⟩ := hz; exact ⟨vs, z, Paired.mono (fun v x hx => by cases x with | d x => exact Rep.same sf hx | ref n => exact hx) r⟩
          | obj c fs => obtain ⟨hc, dx, vfs, z, r⟩ := hz; exact ⟨hc, dx, vfs, z, Paired.mono (fun v x hx => ⟨hx.1, by obtain ⟨f, x⟩ := x; cases x with | d x => exact Rep.same sf hx.2 | ref n => exact hx.2⟩) r⟩
          | dct kvs => exact hz.elim
      have E3 : Ext H1 F1 ad1 H2 (upd F2 L (.lst ws)) ad2 := by
        refine ⟨E2.pre, E2.fz.trans sf, E2.kp, E2.dm, fun b o hb => ?_, E2.na⟩
        by_cases e : b = L
        · rw [e]; exact .inr hL
        · rw [upd_ne e] at hb; exact E2.nw b o hb
      exact h2 _ _ _ E3 S3 _ (.lst upd_same ((repVs_ds rw z).same sf))
  · exact h1.elim
theorem sim_lcC {vs : List Nat} {wi : TI} {g : TG} {tt : TT} {te : TE} {mi : MI} {mg : MG} {mt : MT} {me : ME} (hs : G.Stb) (hi : SimI G W wi mi) (hg : SimG G vs g mg) (ht : SimT G (fun _ _ _ _ => False) tt mt) (he : SimE G (fun _ _ _ _ => False) te me) : SimE G W (tLc wi g tt te vs) (mLcC vs mi mg mt me) := by
  intro σ ρ H F ad st Q Re S h
  unfold mLcC mLcG at h
  rw [Res.bind_assoc] at h
  refine simI_bind hi Re S h fun it J st1 H1 F1 ad1 R1 S1 wk h1 => ?_
  intro L hL
  replace h1 : Po G _ H1 F1 ad1 (QV G Q) ((if it.xs.length ≤ cap then compM it.gd mg mt me (wipeE ρ vs) it.xs st1 else .bad).bind fun ys st => .ok (.ref st.length) (st ++ [.lst ys])) := h1
  split at h1
  · rename_i hc
    refine lc_run hs wk hg ht he R1 S1 hL hc h1 fun H2 F2 ad2 st2 ys ws E2 S2 na nf hl rw _ h2 => ?_
    have E3 : Ext H1 F1 ad1 H2 F2 (ad2 ++ [L]) := by
      obtain ⟨zs, ez⟩ := E2.pre
      refine ⟨⟨zs ++ [L], by rw [ez, List.append_assoc]⟩, E2.fz, E2.kp, E2.dm, E2.nw, fun b hb => ?_⟩
      rcases List.mem_append.mp hb with hb | hb
      · exact E2.na b hb
      · have : b = L := by simpa using hb
        rw [this]; exact .inr hL
    have up : ∀ {v : V} {x : Va}, RepV G F2 ad2 v x → RepV G F2 (ad2 ++ [L]) v x := fun {v x} hx => by
      cases x with
      | d x => exact hx
      | ref n =>
        obtain ⟨a, h1, h2⟩ := hx
        exact ⟨a, by rw [List.getElem?_append_left (List.getElem?_eq_some_iff.mp h1).1]; exact h1, h2⟩
    have S3 : SR G H2 F2 (ad2 ++ [L]) (st2 ++ [.lst ys]) := by
      refine ⟨S2.sub, by rw [List.length_append, List.length_append, S2.len]; rfl, ?_, fun a ha => ?_, fun n a m ha hm => ?_⟩
      · rw [List.nodup_append]
        refine ⟨S2.nd, by simp, fun a ha b hb => ?_⟩
        have : b = L := by simpa using hb
        rw [this]
        exact fun e => na (by rw [← e]; exact ha)
      · rcases List.mem_append.mp ha with ha | ha
        · exact S2.dis a ha
        · have : a = L := by simpa using ha
          rw [this]; exact nf
      · by_cases hn : n < ad2.length
        · rw [List.getElem?_append_left hn] at ha
          rw [List.getElem?_append_left (by rw [← S2.len]; exact hn)] at hm
          have hz := S2.ob n a m ha hm
          cases m with
          | lst ds => obtain ⟨vs, z, r⟩ := hz; exact ⟨vs, z, Paired.mono (fun v x hx => up hx) r⟩
          | obj c fs => obtain ⟨hc, dx, vfs, z, r⟩ := hz; exact ⟨hc, dx, vfs, z, Paired.mono (fun v x hx => ⟨hx.1, up hx.2⟩) r⟩
          | dct kvs => exact hz.elim
        · have hl' : n < (ad2 ++ [L]).length := (List.getElem?_eq_some_iff.mp ha).1
          have e : n = ad2.length := by
            rw [List.length_append] at hl'
            simp at hl'
            omega
          subst e
          rw [List.getElem?_append_right (Nat.le_refl _), Nat.sub_self] at ha
          rw [S2.len, List.getElem?_append_right (Nat.le_refl _), Nat.sub_self] at hm
          have e1 : L = a := by simpa using ha
          have e2 : MO.lst ys = m := by simpa using hm
          rw [← e1, ← e2]
          exact ⟨ws, hl, Paired.mono (fun v x hx => up hx) rw⟩
    exact h2 _ _ _ E3 S3 _ ⟨L, by rw [← S2.len]; simp, rfl⟩
  · exact h1.elim
section
variable {elt tg iter : Expr} {ifs : List Expr} {scope : Scope} {own : List (Str × Nat)} {pos : Pos} {mi : MI} {mg : MG} {mt : MT} {me : ME}
abbrev BlkI := Shared × Hp × Addr × List (Str × Addr) × List Addr
abbrev blkX (X : Cx) (scope : Scope) (b : BlkI) : Cx := X.blk b.1 b.2.1 scope (compEnvC scope b.2.2.2.1 b.2.2.1 X.env) b.2.2.2.2
theorem de_lc (hs : G.Stb) (hc : X.calm = true) (hN : X.N.Nodup) (hi : DI G W X tg iter mi) (ok : BlkOk X.N X.env.scope scope own)
    (hg : ∀ b : BlkI, DG G (blkX X scope b) (own.map (·.2)) tg mg) (ht : ∀ b : BlkI, DTs G (fun _ _ _ _ => False) (blkX X scope b) ifs mt) (he : ∀ b : BlkI, DE G (fun _ _ _ _ => False) (blkX X scope b) elt me) (hf : ∀ x, foldedSetIterable iter X.env x = pure x := by intro _; rfl) :
    DE G W X (.ListComp elt [⟨tg, iter, ifs, 0⟩] scope pos) (mLc (own.map (·.2)) mi mg mt me) := by
  obtain ⟨wi, pi, si⟩ := hi
  obtain ⟨g, pg, sg⟩ := uniG hg
  obtain ⟨tt, pt, st⟩ := uniT ht
  obtain ⟨te, pe, se⟩ := uniE he
  exact ⟨_, pe_lc hc hN pi ok (fun s H C cl fp => pg (s, H, C, cl, fp)) (fun s H C cl fp => pt (s, H, C, cl, fp)) (fun s H C cl fp => pe (s, H, C, cl, fp)) hf, sim_lc hs si sg st se⟩
theorem de_lcC (hs : G.Stb) (hc : X.calm = true) (hN : X.N.Nodup) (hi : DI G W X tg iter mi) (ok : BlkOk X.N X.env.scope scope own)
    (hg : ∀ b : BlkI, DG G (blkX X scope b) (own.map (·.2)) tg mg) (ht : ∀ b : BlkI, DTs G (fun _ _ _ _ => False) (blkX X scope b) ifs mt) (he : ∀ b : BlkI, DE G (fun _ _ _ _ => False) (blkX X scope b) elt me) (hf : ∀ x, foldedSetIterable iter X.env x = pure x := by intro _; rfl) :
    DE G W X (.ListComp elt [⟨tg, iter, ifs, 0⟩] scope pos) (mLcC (own.map (·.2)) mi mg mt me) := by
  obtain ⟨wi, pi, si⟩ := hi
  obtain ⟨g, pg, sg⟩ := uniG hg
  obtain ⟨tt, pt, st⟩ := uniT ht
  obtain ⟨te, pe, se⟩ := uniE he
  exact ⟨_, pe_lc hc hN pi ok (fun s H C cl fp => pg (s, H, C, cl, fp)) (fun s H C cl fp => pt (s, H, C, cl, fp)) (fun s H C cl fp => pe (s, H, C, cl, fp)) hf, sim_lcC hs si sg st se⟩
/-- y = [..] -/
theorem ds_setLc {i : Nat} {y : Str} {py spos : Pos} (hs : G.Stb) (hc : X.calm = true) (hN : X.N.Nodup) (hy : X.N[i]? = some y) (hyl : X.env.scope.names.lookup y = some .local) (hsw : swapsWith (.ListComp elt [⟨tg, iter, ifs, 0⟩] scope pos) (some (.Name y py)) spos.line X.env = pure true)
    (hi : DI G W X tg iter mi) (ok : BlkOk X.N X.env.scope scope own)
    (hg : ∀ b : BlkI, DG G (blkX X scope b) (own.map (·.2)) tg mg) (ht : ∀ b : BlkI, DTs G (fun _ _ _ _ => False) (blkX X scope b) ifs mt) (he : ∀ b : BlkI, DE G (fun _ _ _ _ => False) (blkX X scope b) elt me) (hf : ∀ x, foldedSetIterable iter X.env x = pure x := by intro _; rfl) :
    DS G W X (.Assign [.Name y py] (.ListComp elt [⟨tg, iter, ifs, 0⟩] scope pos) spos) (mAsg (mLc (own.map (·.2)) mi mg mt me) (gN i)) := by
  obtain ⟨wi, pi, si⟩ := hi
  obtain ⟨g, pg, sg⟩ := uniG hg
  obtain ⟨tt, pt, st⟩ := uniT ht
  obtain ⟨te, pe, se⟩ := uniE he
  exact ⟨_, ps_setLc hc hN hy hyl hsw pi ok (fun s H C cl fp => pg (s, H, C, cl, fp)) (fun s H C cl fp => pt (s, H, C, cl, fp)) (fun s H C cl fp => pe (s, H, C, cl, fp)) hf, sim_asg (sim_lc hs si sg st se) (simG_name (vs := [i]) hs (List.mem_singleton.mpr rfl))⟩
theorem ds_setLcC {i : Nat} {y : Str} {py spos : Pos} (hs : G.Stb) (hc : X.calm = true) (hN : X.N.Nodup) (hy : X.N[i]? = some y) (hyl : X.env.scope.names.lookup y = some .local) (hsw : swapsWith (.ListComp elt [⟨tg, iter, ifs, 0⟩] scope pos) (some (.Name y py)) spos.line X.env = pure true)
    (hi : DI G W X tg iter mi) (ok : BlkOk X.N X.env.scope scope own)
    (hg : ∀ b : BlkI, DG G (blkX X scope b) (own.map (·.2)) tg mg) (ht : ∀ b : BlkI, DTs G (fun _ _ _ _ => False) (blkX X scope b) ifs mt) (he : ∀ b : BlkI, DE G (fun _ _ _ _ => False) (blkX X scope b) elt me) (hf : ∀ x, foldedSetIterable iter X.env x = pure x := by intro _; rfl) :
    DS G W X (.Assign [.Name y py] (.ListComp elt [⟨tg, iter, ifs, 0⟩] scope pos) spos) (mAsg (mLcC (own.map (·.2)) mi mg mt me) (gN i)) := by
  obtain ⟨wi, pi, si⟩ := hi
  obtain ⟨g, pg, sg⟩ := uniG hg
  obtain ⟨tt, pt, st⟩ := uniT ht
  obtain ⟨te, pe, se⟩ := uniE he
  exact ⟨_, ps_setLc hc hN hy hyl hsw pi ok (fun s H C cl fp => pg (s, H, C, cl, fp)) (fun s H C cl fp => pt (s, H, C, cl, fp)) (fun s H C cl fp => pe (s, H, C, cl, fp)) hf, sim_asg (sim_lcC hs si sg st se) (simG_name (vs := [i]) hs (List.mem_singleton.mpr rfl))⟩
end
end

/-! ### errors -/
/-- what __init__ promises: one field | two fields -/
def spExc (fld : Str) (C : Addr) : Sp := fun vs H Q _ => ∃ (a : Addr) (v : V), vs = [.ref a, v] ∧ H a = some (exo a C none) ∧ ∀ dx, H dx = none → dx ≠ a → Q .non (upd (upd H dx (exd dx [(fld, v)])) a (exo a C (some dx)))
def spExc2 (fld fld2 : Str) (C : Addr) : Sp := fun vs H Q _ => ∃ (a : Addr) (v v2 : V), vs = [.ref a, v, v2] ∧ H a = some (exo a C none) ∧ ∀ dx, H dx = none → dx ≠ a → Q .non (upd (upd (upd H dx (exd dx [(fld, v)])) a (exo a C (some dx))) dx (exd dx [(fld2, v2), (fld, v)]))
theorem mk_exc {C : Addr} {fld : Str} {v : V} {H1 : Hp} {Q : XK} (q : ∀ d H', H1 d = none → Same H1 H' → H' d = some (.xd [(fld, v)]) → Q (.ref C) (some d) H') :
    [v].length ≤ 1000 ∧ ∀ a, H1 a = none → spExc fld C (.ref a :: ([v] ++ [])) (upd H1 a (exo a C none)) (fun v H2 => v = .non ∧ ∃ (d : Addr) (fs : List (Str × V)), H2 a = some (exo a C (some d)) ∧ H2 d = some (exd d fs) ∧ H1 d = none ∧ Q (.ref C) (some d) (upd (del H2 a) d (.xd fs))) (fun _ _ _ => False) := by
  refine ⟨(by show 1 ≤ 1000; decide), fun a ha => ⟨a, v, rfl, upd_same, fun dx hd ne => ?_⟩⟩
  have hd1 : H1 dx = none := by
    rw [upd_ne ne] at hd
    exact hd
  refine ⟨rfl, dx, [(fld, v)], upd_same, by rw [upd_ne ne, upd_same], hd1, q dx _ hd1 (fun b o hb => ?_) upd_same⟩
  have nb : b ≠ dx := ne_of_none hb hd1
  have na : b ≠ a := ne_of_none hb ha
  rw [upd_ne nb, del_ne na, upd_ne na, upd_ne nb, upd_ne na]
  exact hb
theorem mk_exc2 {C : Addr} {fld fld2 : Str} {v v2 : V} {H1 : Hp} {Q : XK} (q : ∀ d H', H1 d = none → Same H1 H' → H' d = some (.xd [(fld2, v2), (fld, v)]) → Q (.ref C) (some d) H') :
    [v, v2].length ≤ 1000 ∧ ∀ a, H1 a = none → spExc2 fld fld2 C (.ref a :: ([v, v2] ++ [])) (upd H1 a (exo a C none)) (fun v H2 => v = .non ∧ ∃ (d : Addr) (fs : List (Str × V)), H2 a = some (exo a C (some d)) ∧ H2 d = some (exd d fs) ∧ H1 d = none ∧ Q (.ref C) (some d) (upd (del H2 a) d (.xd fs))) (fun _ _ _ => False) := by
  refine ⟨(by show 2 ≤ 1000; decide), fun a ha => ⟨a, v, v2, rfl, upd_same, fun dx hd ne => ?_⟩⟩
  have hd1 : H1 dx = none := by
    rw [upd_ne ne] at hd
    exact hd
  refine ⟨rfl, dx, [(fld2, v2), (fld, v)], by rw [upd_ne ne.symm, upd_same], upd_same, hd1, q dx _ hd1 (fun b o hb => ?_) upd_same⟩
  have nb : b ≠ dx := ne_of_none hb hd1
  have na : b ≠ a := ne_of_none hb ha
  rw [upd_ne nb, del_ne na, upd_ne nb, upd_ne na, upd_ne nb, upd_ne na]
  exact hb
section
variable {G : Ga} {W : L2.WX} {X : Cx}
/-- more is known, a new frozen thing among it -/
theorem SR.grow {H F H' : Hp} {ad : List Addr} {st : Sto} {p : Addr} {o : HO} (S : SR G H F ad st) (s : Same H H') (hp : H p = none) (hp' : H' p = some o) : SR G H' (upd F p o) ad st ∧ Ext H F ad H' (upd F p o) ad := by
  have fp : F p = none := S.sub.free hp
  have sf : Same F (upd F p o) := fun b u h => by rw [upd_ne (ne_of_none h fp)]; exact h
  have ne : ∀ a ∈ ad, a ≠ p := fun a h e => by
    obtain ⟨u, hu⟩ := S.there h
    rw [e, hp] at hu
    cases hu
  have E : Ext H F ad H' (upd F p o) ad := ⟨⟨[], (List.append_nil _).symm⟩, sf, fun b u _ h => s b u h, fun b h => s.free h, fun b u h => by
    by_cases e : b = p
    · rw [e]; exact .inr hp
    · rw [upd_ne e] at h; exact .inl h, fun b h => .inl h⟩
  refine ⟨⟨fun b u h => ?_, S.len, S.nd, fun a h => by rw [upd_ne (ne a h)]; exact S.dis a h, fun n a m h hm => ?_⟩, E⟩
  · by_cases e : b = p
    · rw [e, upd_same] at h
      rw [e, hp']; exact h
    · rw [upd_ne e] at h; exact s b u (S.sub b u h)
  · have hz := S.ob n a m h hm
    obtain ⟨u, hu⟩ := hz.there
    exact hz.mono E (by rw [hu]; exact s a u hu)
def mRaise (c : String) (fls : List String) (a : MA) : MS := fun ρ st => match a ρ st with
  | .ok vs st => if vs.length = fls.length then .er c (fls.zip vs).reverse ρ st else .bad
  | .er c fs st => .er c fs ρ st
  | .bad => .bad
theorem ds_raise1 {s : Stmt} {es : List Expr} {m : MA} {c fld : String} (hc : c ∈ G.xs) (hp : ∀ {t : TA}, PA X es t → PS X s (fun _ σ H => tMkO (G.ca c) (spExc (Str.ofString fld) (G.ca c)) [] t σ H fun cls d H' => W cls d σ H')) (h : DA G W X es m) : DS G W X s (mRaise c [fld] m) := by
  obtain ⟨t, p, sm⟩ := h
  refine ⟨_, hp p, ?_⟩
  intro σ ρ H F ad st D R S h
  refine sm σ ρ H F ad st _ R S ?_
  unfold mRaise at h
  revert h
  generalize m ρ st = ra
  intro h
  cases ra with
  | bad => exact h
  | er c fs st1 => exact fun H' F' ad' cls d e S' z => h H' F' ad' σ cls d e S' (R.ext e) z
  | ok xs st1 =>
    intro H1 F1 ad1 e1 S1 ws rw
    match xs, rw, h with
    | [], _, h => exact h.elim
    | _ :: _ :: _, _, h =>
      have h : PoS G W H F ad D (if _ = 1 then _ else .bad) := h
      rw [if_neg (by simp)] at h
      exact h.elim
    | [x], .cons (a := v) r .nil, h =>
      refine mk_exc (C := G.ca c) (fld := Str.ofString fld) (v := v) (H1 := H1) (Q := fun cls d H' => W cls d σ H') fun d H' hd s' hx => ?_
      obtain ⟨S2, E2⟩ := S1.grow s' hd hx
      exact h H' _ ad1 σ _ _ (e1.trans E2) S2 ((R.ext e1).ext E2) ⟨hc, rfl, .inr ⟨d, _, rfl, upd_same, .cons ⟨rfl, r.ext E2⟩ .nil⟩⟩
theorem ds_raise2 {s : Stmt} {es : List Expr} {m : MA} {c fld fld2 : String} (hc : c ∈ G.xs) (hp : ∀ {t : TA}, PA X es t → PS X s (fun _ σ H => tMkO (G.ca c) (spExc2 (Str.ofString fld) (Str.ofString fld2) (G.ca c)) [] t σ H fun cls d H' => W cls d σ H')) (h : DA G W X es m) : DS G W X s (mRaise c [fld, fld2] m) := by
  obtain ⟨t, p, sm⟩ := h
  refine ⟨_, hp p, ?_⟩
  intro σ ρ H F ad st D R S h
  refine sm σ ρ H F ad st _ R S ?_
  unfold mRaise at h
  revert h
  generalize m ρ st = ra
  intro h
  cases ra with
  | bad => exact h
  | er c fs st1 => exact fun H' F' ad' cls d e S' z => h H' F' ad' σ cls d e S' (R.ext e) z
  | ok xs st1 =>
    intro H1 F1 ad1 e1 S1 ws rw
    match xs, rw, h with
    | [], _, h => exact h.elim
    | [_], _, h => exact h.elim
    | _ :: _ :: _ :: _, _, h =>
      have h : PoS G W H F ad D (if _ = 2 then _ else .bad) := h
      rw [if_neg (by simp)] at h
      exact h.elim
    | [x, y], .cons (a := v) r (.cons (a := w) r2 .nil), h =>
      refine mk_exc2 (C := G.ca c) (fld := Str.ofString fld) (fld2 := Str.ofString fld2) (v := v) (v2 := w) (H1 := H1) (Q := fun cls d H' => W cls d σ H') fun d H' hd s' hx => ?_
      obtain ⟨S2, E2⟩ := S1.grow s' hd hx
      exact h H' _ ad1 σ _ _ (e1.trans E2) S2 ((R.ext e1).ext E2) ⟨hc, rfl, .inr ⟨d, _, rfl, upd_same, .cons ⟨rfl, r2.ext E2⟩ (.cons ⟨rfl, r.ext E2⟩ .nil)⟩⟩
/-! an except suite: the error is known -/
def Ga.sx (G : Ga) (a : Addr) (i : Nat) (c : String) (fs : List (String × Va)) (cls : Value) (d : Option Addr) : Ga := { G with
  jv := fun F ad σ => σ[i]? = some (some (.ref a)) ∧ ErrR G F ad c fs cls d
  jm := fun {H F H' F' ad ad' σ} e h => by
    obtain ⟨h0, h1, h2, h3⟩ := h
    refine ⟨h0, h1, h2, ?_⟩
    rcases h3 with h3 | ⟨dx, vfs, e1, e2, e3⟩
    · exact .inl h3
    · exact .inr ⟨dx, vfs, e1, e.fz _ _ e2, RepFs.ext e e3⟩ }
section
variable {G' : Ga} (hK : G'.K = G.K) (hca : G'.ca = G.ca) (hcs : G'.cs = G.cs)
include hK hca hcs
mutual
theorem Rep.swap {F : Hp} : ∀ {v : V} {d : D}, Rep G F v d → Rep G' F v d
  | _, _, .non => .non
  | _, _, .bl b => .bl b
  | _, _, .int i => .int i
  | _, _, .str x => .str x
  | _, _, .lst h t => .lst h (Reps.swap t)
  | _, _, .tup h t => .tup (by rw [hK]; exact h) (Reps.swap t)
  | _, _, .obj hc h t => .obj (by rw [hcs]; exact hc) (by rw [hca]; exact h) (Repf.swap t)
  | _, _, .cls c hc => by
    have := Rep.cls (G := G') (F := F) c (by rw [hcs]; exact hc)
    rw [hca] at this
    exact this
  | _, _, .ty n => .ty n
  | _, _, .lck h => .lck (by rw [hK]; exact h)
  | _, _, .idn h => .idn (Rep.swap h)
theorem Reps.swap {F : Hp} : ∀ {v : List V} {d : List D}, Reps G F v d → Reps G' F v d
  | _, _, .nil => .nil
  | _, _, .cons h t => .cons (Rep.swap h) (Reps.swap t)
theorem Repf.swap {F : Hp} : ∀ {v : List (Str × V)} {d : List (String × D)}, Repf G F v d → Repf G' F v d
  | _, _, .nil => .nil
  | _, _, .cons h t => .cons (Rep.swap h) (Repf.swap t)
end
theorem RepV.swap {F : Hp} {ad : List Addr} {v : V} {x : Va} (h : RepV G F ad v x) : RepV G' F ad v x := by
  cases x with
  | d x => exact Rep.swap hK hca hcs h
  | ref n => exact h
theorem RepVs.swap {F : Hp} {ad : List Addr} {v : List V} {x : List Va} (h : RepVs G F ad v x) : RepVs G' F ad v x := Paired.mono (fun _ _ z => RepV.swap hK hca hcs z) h
theorem RepFs.swap {F : Hp} {ad : List Addr} {v : List (Str × V)} {x : List (String × Va)} (h : RepFs G F ad v x) : RepFs G' F ad v x := Paired.mono (fun _ _ z => ⟨z.1, RepV.swap hK hca hcs z.2⟩) h
theorem SR.swap {H F : Hp} {ad : List Addr} {st : Sto} (S : SR G H F ad st) : SR G' H F ad st := by
  refine ⟨S.sub, S.len, S.nd, S.dis, fun n a o h ho => ?_⟩
  have hz := S.ob n a o h ho
  cases o with
  | lst ds => obtain ⟨vs, z, r⟩ := hz; exact ⟨vs, z, RepVs.swap hK hca hcs r⟩
  | obj c fs => obtain ⟨hc, dx, vfs, z, r⟩ := hz; exact ⟨by rw [hcs]; exact hc, dx, vfs, by rw [hca]; exact z, RepFs.swap hK hca hcs r⟩
  | dct kvs => exact hz.elim
end
/-- e.f in the suite -/
def mXf (fs : List (String × Va)) (f : String) : ME := fun _ st => match fs.lookup f with
  | some v => .ok v st
  | none => .bad
theorem de_xf {a : Addr} {oe : Obj} {cls : Value} {d : Option Addr} {pn : List (Addr × Obj)} {e : Expr} {pos : Pos} {i : Nat} {c f : String} {fs : List (String × Va)} (hp : PE (X.suite a ((a, oe) :: pn)) (.Attribute e (Str.ofString f) pos) (tXf a cls d (G.ca c) (Str.ofString f) (tVar i))) : DE (G.sx a i c fs cls d) W (X.suite a ((a, oe) :: pn)) (.Attribute e (Str.ofString f) pos) (mXf fs f) := by
  refine ⟨_, hp, ?_⟩
  intro σ ρ H F ad st Q R S h
  obtain ⟨h0, h1, h2, h3⟩ := R.j
  unfold mXf at h
  cases z : fs.lookup f with
  | none => rw [z] at h; exact h.elim
  | some x =>
    rw [z] at h
    refine ⟨.ref a, h0, rfl, h2, ?_⟩
    rcases h3 with ⟨rfl, _⟩ | ⟨dx, vfs, e1, e2, e3⟩
    · cases z
    · obtain ⟨w, q1, q2⟩ := lookup_f e3 z
      exact ⟨dx, vfs, w, e1, S.sub _ _ e2, q1, fin_same S h _ (RepV.swap (G := G) (G' := G.sx a i c fs cls d) rfl rfl rfl q2)⟩
/-- try: body except C as n: suite -/
def mTry (i : Nat) (c0 : String) (b : MS) (h : List (String × Va) → MS) : MS := fun ρ st => match b ρ st with
  | .er c fs ρ st => if c = c0 then (if i < ρ.length then (match h fs (ρ.set i none) st with
    | .nx ρ st => .nx (ρ.set i none) st
    | .rt v st => .rt v st
    | .bk ρ st => .bk (ρ.set i none) st
    | .ct ρ st => .ct (ρ.set i none) st
    | _ => .bad) else .bad) else .er c fs ρ st
  | o => o
theorem RelE.out {F : Hp} {ad : List Addr} {σ : L2.St} {ρ : Ev} {i : Nat} {a : Addr} {c : String} {fs : List (String × Va)} {cls : Value} {d : Option Addr} (hj : ∀ F ad σ, G.jv F ad σ) (R : RelE (G.sx a i c fs cls d) F ad σ ρ) : RelE G F ad (σ.set i none) (ρ.set i none) := by
  refine ⟨by rw [List.length_set, List.length_set]; exact R.len, fun j u e => ?_, hj _ _ _⟩
  by_cases q : i = j
  · subst q
    have hl : i < ρ.length := by
      have := (List.getElem?_eq_some_iff.mp e).1
      rw [List.length_set] at this
      exact this
    rw [List.getElem?_set_self hl] at e
    cases e
  · rw [List.getElem?_set_ne q] at e
    obtain ⟨v, h1, h2⟩ := R.at_ j u e
    exact ⟨v, by rw [List.getElem?_set_ne q]; exact h1, RepV.swap (G := G.sx a i c fs cls d) (G' := G) rfl rfl rfl h2⟩
theorem ds_try_as {x n : Str} {i : Nat} {c0 : String} {body suite : List Stmt} {b₀ : Stmt} {np pos pos' : Pos} {mb : MS} {mh : List (String × Va) → MS} (hj : ∀ F ad σ, G.jv F ad σ) (hK : X.K = G.K) (h0 : c0 ∈ G.xs) (hs : X.stack = X.env :: X.outer) (hf : X.env.frame = some X.env.locals) (hN : X.N.Nodup) (hi : X.N[i]? = some n) (hln : X.env.kindOf n = some .local) (hc : Names X x (.ref (G.ca c0))) (tk : Takes X W)
    (hb : ∀ (W' : WX) (pn : List (Addr × Obj)) (xe : Value → Shared → Prop), Takes (X.tr pn xe) W' → PassesOwn (model X.prog X.w) X.A X.env xe → DSs G W' (X.tr pn xe) body mb)
    (hsu : ∀ (fs : List (String × Va)) (a : Addr) (oe : Obj) (d : Option Addr) (pn : List (Addr × Obj)), Zc (.ref (G.ca c0)) d oe → (∃ vs, oe.data = .fields vs) → DSs (G.sx a i c0 fs (.ref (G.ca c0)) d) (fun _ _ _ _ => False) (X.suite a ((a, oe) :: pn)) (b₀ :: suite) (mh fs)) :
    DS G W X (.Try body [.ExceptHandler (some (.Name x np)) (some n) (b₀ :: suite) pos'] [] [] pos) (mTry i c0 mb mh) := by
  have ub : ∀ W' : WX, ∃ t, (∀ (pn : List (Addr × Obj)) (xe : Value → Shared → Prop), Takes (X.tr pn xe) W' → PassesOwn (model X.prog X.w) X.A X.env xe → PSs (X.tr pn xe) body t) ∧ SimS G W' t mb := fun W' => by
    obtain ⟨t, h1, h2⟩ := uniSs (G := G) (W := W') (ι := { p : List (Addr × Obj) × (Value → Shared → Prop) // Takes (X.tr p.1 p.2) W' ∧ PassesOwn (model X.prog X.w) X.A X.env p.2 }) (Y := fun p => X.tr p.1.1 p.1.2) (e := body) (m := mb) fun p => hb W' p.1.1 p.1.2 p.2.1 p.2.2
    exact ⟨t, fun pn xe a b => h1 ⟨(pn, xe), a, b⟩, h2⟩
  let tb : WX → TS := fun W' => (ub W').choose
  have tbp : ∀ W' (pn : List (Addr × Obj)) (xe : Value → Shared → Prop), Takes (X.tr pn xe) W' → PassesOwn (model X.prog X.w) X.A X.env xe → PSs (X.tr pn xe) body (tb W') := fun W' => (ub W').choose_spec.1
  have tbs : ∀ W', SimS G W' (tb W') mb := fun W' => (ub W').choose_spec.2
  let ts : Addr → Value → Option Addr → TS := fun a cls d D σ H => ∀ (oe : Obj) (pn : List (Addr × Obj)), Zc cls d oe → (∃ vs, oe.data = .fields vs) → ∃ t, PSs (X.suite a ((a, oe) :: pn)) (b₀ :: suite) t ∧ t D σ H
  refine ⟨_, ps_try_as (tb := tb) (ts := ts) hs hf hN hi hln hc tk tbp (fun a oe cls d pn hz hv => ⟨fun pins s σ H D I h => ?_⟩), ?_⟩
  · obtain ⟨t, p, z⟩ := h oe pn hz hv
    exact p.run pins s σ H D I z
  · intro σ ρ H F ad st D R S h
    refine tbs _ σ ρ H F ad st D R S ?_
    unfold mTry at h
    revert h
    generalize mb ρ st = o
    intro h
    cases o with
    | nx ρ1 st1 => exact h
    | rt v st1 => exact h
    | bk ρ1 st1 => exact h
    | ct ρ1 st1 => exact h
    | bad => exact h
    | er c fs ρ1 st1 =>
      intro H1 F1 ad1 σ1 cls d e1 S1 R1 er
      obtain ⟨hx, rfl, er3⟩ := er
      refine ⟨decide (c = c0), by rw [hK]; exact G.xm c hx c0 h0, fun hd a ha oe pn hz hv => ?_, fun hd => ?_⟩
      · have e : c = c0 := of_decide_eq_true hd
        subst e
        obtain ⟨t, p, z⟩ := hsu fs a oe d pn hz hv
        refine ⟨t, p, ?_⟩
        have hil : i < σ1.length ∨ ¬ i < σ1.length := Classical.em _
        have h : PoS G W H F ad D (if c = c then (if i < ρ1.length then (match mh fs (ρ1.set i none) st1 with
          | .nx ρ st => .nx (ρ.set i none) st
          | .rt v st => .rt v st
          | .bk ρ st => .bk (ρ.set i none) st
          | .ct ρ st => .ct (ρ.set i none) st
          | _ => .bad) else .bad) else .er c fs ρ1 st1) := h
        rw [if_pos rfl] at h
        have h := PoS.from e1 h
        rcases hil with hil | hil
        · rw [if_pos (by rw [← R1.len]; exact hil)] at h
          have R2 : RelE (G.sx a i c fs (.ref (G.ca c)) d) F1 ad1 (σ1.set i (some (.ref a))) (ρ1.set i none) := by
            refine ⟨by rw [List.length_set, List.length_set]; exact R1.len, fun j u e => ?_, List.getElem?_set_self hil, hx, rfl, er3⟩
            by_cases q : i = j
            · subst q
              rw [List.getElem?_set_self (by rw [← R1.len]; exact hil)] at e
              cases e
            · rw [List.getElem?_set_ne q] at e
              obtain ⟨v, h1, h2⟩ := R1.at_ j u e
              exact ⟨v, by rw [List.getElem?_set_ne q]; exact h1, RepV.swap (G := G) (G' := G.sx a i c fs (.ref (G.ca c)) d) rfl rfl rfl h2⟩
          refine z _ _ H1 F1 ad1 st1 _ R2 (SR.swap (G := G) (G' := G.sx a i c fs (.ref (G.ca c)) d) rfl rfl rfl S1) ?_
          revert h
          generalize mh fs (ρ1.set i none) st1 = o
          intro h
          cases o with
          | nx ρ3 st3 => exact fun H4 F4 ad4 σ4 e4 S4 R4 => h H4 F4 ad4 _ e4 (SR.swap (G := G.sx a i c fs (.ref (G.ca c)) d) (G' := G) rfl rfl rfl S4) (R4.out hj)
          | bk ρ3 st3 => exact fun H4 F4 ad4 σ4 e4 S4 R4 => h H4 F4 ad4 _ e4 (SR.swap (G := G.sx a i c fs (.ref (G.ca c)) d) (G' := G) rfl rfl rfl S4) (R4.out hj)
          | ct ρ3 st3 => exact fun H4 F4 ad4 σ4 e4 S4 R4 => h H4 F4 ad4 _ e4 (SR.swap (G := G.sx a i c fs (.ref (G.ca c)) d) (G' := G) rfl rfl rfl S4) (R4.out hj)
          | rt v3 st3 => exact fun H4 F4 ad4 w e4 S4 r4 => h H4 F4 ad4 w e4 (SR.swap (G := G.sx a i c fs (.ref (G.ca c)) d) (G' := G) rfl rfl rfl S4) (RepV.swap (G := G.sx a i c fs (.ref (G.ca c)) d) (G' := G) rfl rfl rfl r4)
          | er c3 fs3 ρ3 st3 => exact h.elim
          | bad => exact h.elim
        · rw [if_neg (by rw [← R1.len]; exact hil)] at h
          exact h.elim
      · have e : ¬ c = c0 := of_decide_eq_false hd
        have h : PoS G W H F ad D (if c = c0 then (if i < ρ1.length then (match mh fs (ρ1.set i none) st1 with
          | .nx ρ st => .nx (ρ.set i none) st
          | .rt v st => .rt v st
          | .bk ρ st => .bk (ρ.set i none) st
          | .ct ρ st => .ct (ρ.set i none) st
          | _ => .bad) else .bad) else .er c fs ρ1 st1) := h
        rw [if_neg e] at h
        exact h H1 F1 ad1 σ1 _ d e1 S1 R1 ⟨hx, rfl, er3⟩
end

/-! ### defs by their mirrors, taken as one -/
section
variable {G : Ga} {W : L2.WX} {X : Cx}
def OkB (P : Program) (w : World) (K : PySem.W.Frag) (mg : Str → Option Value) (base : Heap) (k : Nat) (f : Addr) (ps : List Str) (dvs : List V) (sp : Sp) : Prop :=
  ∃ fd ds, FnOk P w K mg base (L2.CX P w) k f fd ps sp ∧ Vals dvs ds ∧ Binds K fd ps ds ∧ PySem.W.keepIn K (.ref f) = true
theorem okb_mk {P : Program} {w : World} {K : PySem.W.Frag} {mg : Str → Option Value} {base : Heap} {x qual : Str} {params : Arguments} {body : List Stmt} {scope : Scope} {f : Addr} {ps : List Str} {k : Nat} {sp : Sp} (F : ∃ fd, FunD K x qual params body scope [] [] f fd)
    (b : ∀ (kV doc pm : Value) (an : Option Addr) (cdv ct : Value) (us : List Value), us.length = ps.length → bindArgs (PySem.W.fnOf x qual params body scope .none kV doc pm an cdv ct) ⟨us, []⟩ = pure (ps.zip us))
    (h : ∀ fd, FunD K x qual params body scope [] [] f fd → FnOk P w K mg base (L2.CX P w) k f fd ps sp) : OkB P w K mg base k f ps [] sp := by
  obtain ⟨fd, F⟩ := F
  exact ⟨fd, [], h fd F, .nil, F.bindsN b, F.kp⟩
/-- with defaults: all given | the last ones left out -/
theorem okb_mkD {P : Program} {w : World} {K : PySem.W.Frag} {mg : Str → Option Value} {base : Heap} {x qual : Str} {params : Arguments} {body : List Stmt} {scope : Scope} {f : Addr} {ps : List Str} {k : Nat} {sp : Sp} {dvs : List V} (F : ∃ fd, FunD K x qual params body scope dvs [] f fd) (n j : Nat) (hd : dvs ≠ []) (hn : n + (dvs.length - j) = ps.length)
    (b : ∀ (T : Addr) (kV doc pm : Value) (an : Option Addr) (cdv ct : Value) (us its : List Value), us.length = n → its.length = dvs.length →
      ∃ k, bindArgs (PySem.W.fnOf x qual params body scope (.ref T) kV doc pm an cdv ct) ⟨us, []⟩ = seqItems? (.ref T) >>= k ∧ k (some its.toArray) = pure (ps.zip (us ++ its.drop j)))
    (h : ∀ fd, FunD K x qual params body scope dvs [] f fd → FnOk P w K mg base (L2.CX P w) k f fd ps sp) : OkB P w K mg base k f ps (dvs.drop j) sp := by
  obtain ⟨fd, F⟩ := F
  obtain ⟨ds, v, bd⟩ := F.binds1 n j hd hn b
  exact ⟨fd, ds, h fd F, v, bd, F.kp⟩
section
variable {k : Nat} {fa : Addr} {ps : List Str} {f : MF} {dvs : List V} {es : List D} {x : Str} {e o : Expr} {ee : List Expr} {p pos apos : Pos} {m : MA} {mo : ME} {c mth : String}
theorem ck_call (F : OkB X.prog X.w X.K X.mg X.base k fa ps dvs (spM G f)) (hd : DflR G dvs es) (hr : Room k X.A) (hg : Gl X x) (hm : X.mg x = some (.ref fa)) (tk : Takes X W)
    (ha : DA G W X (e :: ee) m) (hdb : (x == ("__debug__" : Str)) = false := by decide) (he : starEach (e :: ee) X.env = (false, eval e X.env) :: starEach ee X.env := by rfl) (hpl : (backTo pos (starEach ee X.env)).any (·.1) = false := by rfl) : DE G W X (.Call (.Name x p) (e :: ee) [] pos) (mCall (withD es f) m) := by
  obtain ⟨t, pt, st⟩ := ha
  obtain ⟨fd, ds, F, hv, hb, hk⟩ := F
  exact ⟨_, pe_callSD F hr hg hm hk hb hv (passAt tk) pt hdb he hpl, sim_call hd (.inl fun ds st => rfl) st⟩
theorem ck_pcall (F : OkB X.prog X.w X.K X.mg X.base k fa ps dvs (spM G f)) (hd : DflR G dvs es) (hr : Room k X.A) (hg : Gl X x) (hm : X.mg x = some (.ref fa)) (tk : Takes X W)
    (ha : DA G W X (e :: ee) m) (hdb : (x == ("__debug__" : Str)) = false := by decide) (he : starEach (e :: ee) X.env = (false, eval e X.env) :: starEach ee X.env := by rfl) (hpl : (backTo pos (starEach ee X.env)).any (·.1) = false := by rfl) : DE G W X (.Call (.Name x p) (e :: ee) [] pos) (mCall (withD es (pureF f)) m) := by
  obtain ⟨t, pt, st⟩ := ha
  obtain ⟨fd, ds, F, hv, hb, hk⟩ := F
  exact ⟨_, pe_callSD F hr hg hm hk hb hv (passAt tk) pt hdb he hpl, sim_call hd (.inr fun ds st => rfl) st⟩
theorem ck_call0 (F : OkB X.prog X.w X.K X.mg X.base k fa ps dvs (spM G f)) (hd : DflR G dvs es) (hr : Room k X.A) (hg : Gl X x) (hm : X.mg x = some (.ref fa)) (tk : Takes X W) (hdb : (x == ("__debug__" : Str)) = false := by decide) : DE G W X (.Call (.Name x p) [] [] pos) (mCall (withD es f) mNil) := by
  obtain ⟨fd, ds, F, hv, hb, hk⟩ := F
  exact ⟨_, pe_callSD0 F hr hg hm hk hb hv (passAt tk) hdb, fun σ ρ H F ad st Q R S h => ⟨F, ad, st, es.map Va.d, S, (hd F).va, h⟩⟩
theorem ck_meth {pl : Sem Bool} (g : MF) (hK : X.K = G.K) (hc : c ∈ G.cs) (he : DE G W X o mo) (hm : Meth G.K (G.ca c) (Str.ofString mth) fa) (F : OkB X.prog X.w X.K X.mg X.base k fa ps dvs (spM G f)) (hr : Room k X.A) (hd : DflR G dvs es) (tk : Takes X W)
    (hg : g = withD es f ∨ g = withD es (pureF f)) (ha : DA G W X (e :: ee) m)
    (hst : starEach (e :: ee) X.env = (false, eval e X.env) :: starEach ee X.env := by rfl) (hpl : (backTo pos (starEach ee X.env)).any (·.1) = false := by rfl)
    (ht : eval (.Call (.Attribute o (Str.ofString mth) apos) (e :: ee) [] pos) X.env = (do
      let ov ← eval o X.env
      standAt apos.atName
      let (f, first) ← holding [ov] (getMethod ov (Str.ofString mth) pl)
      callWith pos f first (backTo pos (starEach (e :: ee) X.env)) (backToKw pos (keywordEach [] X.env))) := by rfl) : DE G W X (.Call (.Attribute o (Str.ofString mth) apos) (e :: ee) [] pos) (mMeth c mth g mo m) := by
  obtain ⟨fd, ds, F, hv, hb, hk⟩ := F
  exact de_meth (pl := pl) g he (by rw [hK]; exact (G.cok c hc).cl) (by rw [hK]; exact hm) F hr hb hv hd tk (hg.elim (fun e => .inl fun ds st => by rw [e]; rfl) fun e => .inr fun ds st => by rw [e]; rfl) ha hst hpl ht
theorem ck_meth0 {pl : Sem Bool} (g : MF) (hK : X.K = G.K) (hc : c ∈ G.cs) (he : DE G W X o mo) (hm : Meth G.K (G.ca c) (Str.ofString mth) fa) (F : OkB X.prog X.w X.K X.mg X.base k fa ps dvs (spM G f)) (hr : Room k X.A) (hd : DflR G dvs es) (tk : Takes X W)
    (hg : g = withD es f ∨ g = withD es (pureF f))
    (ht : eval (.Call (.Attribute o (Str.ofString mth) apos) [] [] pos) X.env = (do
      let ov ← eval o X.env
      standAt apos.atName
      let (f, first) ← holding [ov] (getMethod ov (Str.ofString mth) pl)
      callWith pos f first (backTo pos (starEach [] X.env)) (backToKw pos (keywordEach [] X.env))) := by rfl) : DE G W X (.Call (.Attribute o (Str.ofString mth) apos) [] [] pos) (mMeth c mth g mo mNil) := by
  obtain ⟨fd, ds, F, hv, hb, hk⟩ := F
  exact de_meth0 (pl := pl) g he (by rw [hK]; exact (G.cok c hc).cl) (by rw [hK]; exact hm) F hr hb hv hd tk (hg.elim (fun e => .inl fun ds st => by rw [e]; rfl) fun e => .inr fun ds st => by rw [e]; rfl) ht
theorem ck_prop (g : MF) {pa : Addr} (hK : X.K = G.K) (hc : c ∈ G.cs) (he : DE G W X e mo) (hp : PropOf G.K (G.ca c) x pa fa) (F : OkB X.prog X.w X.K X.mg X.base k fa ps [] (spM G f)) (hr : Room (k + 1) X.A)
    (hg : g = f ∨ g = pureF f) (hab : attributeBase e x X.env (eval e X.env) = eval e X.env) : DE G W X (.Attribute e x pos) (mProp c g mo) := by
  obtain ⟨fd, ds, F, hv, hb, hk⟩ := F
  have : ds = [] := List.eq_nil_of_length_eq_zero (by rw [← hv.length]; rfl)
  subst this
  exact de_prop g he (by rw [hK]; exact (G.cok c hc).cl) (by rw [hK]; exact hp) F hr hb (hg.elim (fun e => .inl fun ds st => by rw [e]) fun e => .inr fun ds st => by rw [e]) hab
theorem ck_makeP (hK : X.K = G.K) (hc : c ∈ G.cs) (M : Mk G.K (G.ca c) fa) (F : OkB X.prog X.w X.K X.mg X.base k fa ps dvs (spM G f)) (hr : Room (k + 1) X.A) (hg : Gl X x) (hm : X.mg x = some (.ref (G.ca c))) (hd : DflR G dvs es) (tk : Takes X W)
    (ha : DA G W X (e :: ee) m) (hdb : (x == ("__debug__" : Str)) = false := by decide) (he : starEach (e :: ee) X.env = (false, eval e X.env) :: starEach ee X.env := by rfl) (hpl : (backTo pos (starEach ee X.env)).any (·.1) = false := by rfl) : DE G W X (.Call (.Name x p) (e :: ee) [] pos) (mCall (makeP c (withD es f)) m) := by
  obtain ⟨fd, ds, F, hv, hb, hk⟩ := F
  exact de_makeP hc (by rw [hK]; exact M) F hr hg hm hb hv hd tk ha hdb he hpl
theorem ck_makeC (hK : X.K = G.K) (hc : c ∈ G.cs) (M : Mk G.K (G.ca c) fa) (F : OkB X.prog X.w X.K X.mg X.base k fa ps dvs (spM G f)) (hr : Room (k + 1) X.A) (hg : Gl X x) (hm : X.mg x = some (.ref (G.ca c))) (hd : DflR G dvs es) (tk : Takes X W)
    (ha : DA G W X (e :: ee) m) (hdb : (x == ("__debug__" : Str)) = false := by decide) (he : starEach (e :: ee) X.env = (false, eval e X.env) :: starEach ee X.env := by rfl) (hpl : (backTo pos (starEach ee X.env)).any (·.1) = false := by rfl) : DE G W X (.Call (.Name x p) (e :: ee) [] pos) (mCall (makeC c (withD es f)) m) := by
  obtain ⟨fd, ds, F, hv, hb, hk⟩ := F
  exact de_makeC hc (by rw [hK]; exact M) F hr hg hm hb hv hd tk ha hdb he hpl
end
end
/-! ### the table of what is static -/
structure Tab where
  cs : List String := []
  fl : List String := []
  xs : List String := []
  xf : List (String × String) := []
  bl : List String := []
  gl : List String := []
  me : List (String × String) := []
  ms : List String := []
  pr : List (String × String) := []
abbrev gaS (K : PySem.W.Frag) (x : String) : Addr := He.ga K (Str.ofString x)
abbrev maS (K : PySem.W.Frag) (c m : String) : Addr := He.ma K (gaS K c) (Str.ofString m)
/-- the getter of a property -/
def prS (K : PySem.W.Frag) (c m : String) : Addr := match PySem.W.recIn K (maS K c m) "property" with
  | some (.ref f :: _) => f
  | _ => 0
def eqI (a : Option (Option Value)) (b : Option (Option Value)) : Bool := decide (a = b)
def eqB (a : Option Bool) (b : Bool) : Bool := decide (a = some b)
def clsB (K : PySem.W.Frag) (c : String) : Bool := (He.Fa.cls (Str.ofString c)).ok K && (eqI (PySem.W.findIn K (.ref (gaS K c)) "__class__") (some (some (.builtin "object.__class__"))) && (eqI (PySem.W.specialIn K (.builtin "object.__class__") "__get__") (some (some (.builtin "getset_descriptor.__get__"))) && (eqB (PySem.W.takesIn K (.builtin "object.__class__")) true &&
  (eqB (PySem.W.mroIn K (gaS K c) (.type "object")) true && ((["int", "bool", "str", "list", "tuple", "dict"].all fun T => eqB (PySem.W.kitOne K (.ref (gaS K c)) (.type T)) false) && (["int", "bool", "str", "list", "tuple", "dict", "NoneType"].all fun T => eqB (PySem.W.kitOne K (.type T) (.ref (gaS K c))) false))))))
theorem clsB_ok {K : PySem.W.Frag} {c : String} (h : clsB K c = true) : ClsOk K (gaS K c) := by
  obtain ⟨h1, h⟩ := He.ba h
  obtain ⟨h2, h⟩ := He.ba h
  obtain ⟨h3, h⟩ := He.ba h
  obtain ⟨h4, h⟩ := He.ba h
  obtain ⟨h5, h⟩ := He.ba h
  obtain ⟨h6, h7⟩ := He.ba h
  exact ⟨He.cls_ok h1, of_decide_eq_true h2, of_decide_eq_true h3, of_decide_eq_true h4, of_decide_eq_true h5, fun T hT => of_decide_eq_true (List.all_eq_true.mp h6 T hT), fun T hT => of_decide_eq_true (List.all_eq_true.mp h7 T hT)⟩
/-- an own error over ValueError with an own __init__ -/
def oexB (K : PySem.W.Frag) (c : String) : Bool := (match K.lookup (gaS K c) with
  | some ⟨.type "type", _, .cls cd, sl⟩ => (match cd.mro, sl.toList with
    | .ref C' :: bm, [_, _, _, _, some (.builtin n), _] => C' == gaS K c && (n == "ValueError.__new__" && (!cd.hasDel && (cd.hasDict && PySem.HandSPX.refsVE bm)))
    | _, _ => false)
  | _ => false) && (eqI (PySem.W.findIn K (.ref (gaS K c)) "__setattr__") (some (some (.builtin "object.__setattr__"))) && (eqB (PySem.W.subIn K (.ref (gaS K c)) (.type "BaseException")) true && (decide (PySem.W.typeIn K (.ref (gaS K c)) = some (.type "type")) && (PySem.W.keepIn K (.ref (gaS K c)) &&
  (xfB K (gaS K c) && (eqI (PySem.W.findIn K (.ref (gaS K c)) "__init__") (some (some (.ref (maS K c "__init__")))) && decide (PySem.W.typeIn K (.ref (maS K c "__init__")) = some (.type "function"))))))))
structure Oex (K : PySem.W.Frag) (c : String) : Prop where
  oex : OexC K (gaS K c)
  xf : XfC K (gaS K c)
  iC : PySem.W.findIn K (.ref (gaS K c)) "__init__" = some (some (.ref (maS K c "__init__")))
  tI : PySem.W.typeIn K (.ref (maS K c "__init__")) = some (.type "function")
theorem oexB_ok {K : PySem.W.Frag} {c : String} (h : oexB K c = true) : Oex K c := by
  obtain ⟨h1, h⟩ := He.ba h
  obtain ⟨h2, h⟩ := He.ba h
  obtain ⟨h3, h⟩ := He.ba h
  obtain ⟨h4, h⟩ := He.ba h
  obtain ⟨h5, h⟩ := He.ba h
  obtain ⟨h6, h⟩ := He.ba h
  obtain ⟨h7, h8⟩ := He.ba h
  refine ⟨⟨?_, of_decide_eq_true h2, of_decide_eq_true h3, of_decide_eq_true h4, h5⟩, xfB_ok h6, of_decide_eq_true h7, of_decide_eq_true h8⟩
  split at h1
  · rename_i dd cd sl ho
    split at h1
    · rename_i C' bm k0 k1 k2 k3 n k5 hm hs
      simp only [Bool.and_eq_true, beq_iff_eq, Bool.not_eq_true'] at h1
      obtain ⟨rfl, rfl, hdel, hdct, ht⟩ := h1
      obtain ⟨nm, bs, mro, ns, qn, hd, sn, sub, ab, col, del⟩ := cd
      dsimp only at hm hdel hdct
      subst hm hdel hdct
      have hsl : sl = #[k0, k1, k2, k3, some (.builtin "ValueError.__new__"), k5] := by
        obtain ⟨l⟩ := sl
        simp only at hs
        rw [hs]
      subst hsl
      exact ⟨nm, qn, ns, bs, bm, sn, sub, ab, col, dd, k0, k1, k2, k3, k5, ho, ht⟩
    · cases h1
  · cases h1
def Tab.ok (t : Tab) (K : PySem.W.Frag) : Bool := (t.cs.all (clsB K)) && ((t.cs.all fun c => t.cs.all fun e => eqB (PySem.W.kitOne K (.ref (gaS K c)) (.ref (gaS K e))) (decide (c = e))) && ((t.fl.all fun f => t.cs.all fun c => eqI (PySem.W.findIn K (.ref (gaS K c)) (Str.ofString f)) (some none)) &&
  ((t.xs.all (oexB K)) && ((t.xs.all fun c => t.xs.all fun e => eqB (PySem.W.exmOne K (.ref (gaS K c)) (.ref (gaS K e))) (decide (c = e))) && ((t.xf.all fun p => eqI (PySem.W.findIn K (.ref (gaS K p.1)) (Str.ofString p.2)) (some none)) &&
  ((t.bl.all fun x => eqI (PySem.W.nsIn K mainGlobals (Str.ofString x)) (some none)) && ((t.gl.all fun x => eqI (PySem.W.nsIn K mainGlobals (Str.ofString x)) (some (some (.ref (gaS K x))))) &&
  ((t.me.all fun p => (He.Fa.meth (Str.ofString p.1) (Str.ofString p.2)).ok K) && ((t.ms.all fun c => (He.Fa.mkr (Str.ofString c)).ok K) &&
  ((t.pr.all fun p => eqI (PySem.W.findIn K (.ref (gaS K p.1)) (Str.ofString p.2)) (some (some (.ref (maS K p.1 p.2)))) && (eqI (PySem.W.specialIn K (.ref (maS K p.1 p.2)) "__get__") (some (some (.builtin "property.__get__"))) && (eqB (PySem.W.takesIn K (.ref (maS K p.1 p.2))) true && (match PySem.W.recIn K (maS K p.1 p.2) "property" with | some (.ref _ :: _) => true | _ => false)))) &&
  (t.xs.isEmpty || (match PySem.W.findCls K (.type "ValueError") (.type "type") "__init__" with | some (.val (.builtin z)) => decide (z = "ValueError.__init__") | _ => false))))))))))))
section
variable {t : Tab} {K : PySem.W.Frag}
structure TabOk (t : Tab) (K : PySem.W.Frag) : Prop where
  cs : ∀ c ∈ t.cs, ClsOk K (gaS K c)
  kit : ∀ c ∈ t.cs, ∀ e ∈ t.cs, PySem.W.kitOne K (.ref (gaS K c)) (.ref (gaS K e)) = some (decide (c = e))
  fl : ∀ f ∈ t.fl, ∀ c ∈ t.cs, NoAttr K (gaS K c) (Str.ofString f)
  xs : ∀ c ∈ t.xs, Oex K c
  xm : ∀ c ∈ t.xs, ∀ e ∈ t.xs, PySem.W.exmOne K (.ref (gaS K c)) (.ref (gaS K e)) = some (decide (c = e))
  xf : ∀ p ∈ t.xf, PySem.W.findIn K (.ref (gaS K p.1)) (Str.ofString p.2) = some none
  bl : ∀ x ∈ t.bl, PySem.W.nsIn K mainGlobals (Str.ofString x) = some none
  gl : ∀ x ∈ t.gl, PySem.W.nsIn K mainGlobals (Str.ofString x) = some (some (.ref (gaS K x)))
  me : ∀ p ∈ t.me, Meth K (gaS K p.1) (Str.ofString p.2) (maS K p.1 p.2)
  ms : ∀ c ∈ t.ms, Mk K (gaS K c) (maS K c "__init__")
  pr : ∀ p ∈ t.pr, PropOf K (gaS K p.1) (Str.ofString p.2) (maS K p.1 p.2) (prS K p.1 p.2)
  ve : t.xs ≠ [] → PySem.W.findCls K (.type "ValueError") (.type "type") "__init__" = some (.val (.builtin "ValueError.__init__"))
theorem Tab.ok_of (h : t.ok K = true) : TabOk t K := by
  obtain ⟨h1, h⟩ := He.ba h
  obtain ⟨h2, h⟩ := He.ba h
  obtain ⟨h3, h⟩ := He.ba h
  obtain ⟨h4, h⟩ := He.ba h
  obtain ⟨h5, h⟩ := He.ba h
  obtain ⟨h6, h⟩ := He.ba h
  obtain ⟨h7, h⟩ := He.ba h
  obtain ⟨h8, h⟩ := He.ba h
  obtain ⟨h9, h⟩ := He.ba h
  obtain ⟨h10, h⟩ := He.ba h
  obtain ⟨h11, h12⟩ := He.ba h
  refine ⟨fun c hc => clsB_ok (List.all_eq_true.mp h1 c hc), fun c hc e he => of_decide_eq_true (List.all_eq_true.mp (List.all_eq_true.mp h2 c hc) e he), fun f hf c hc => show PySem.W.findIn _ _ _ = _ from of_decide_eq_true (List.all_eq_true.mp (List.all_eq_true.mp h3 f hf) c hc),
    fun c hc => oexB_ok (List.all_eq_true.mp h4 c hc), fun c hc e he => of_decide_eq_true (List.all_eq_true.mp (List.all_eq_true.mp h5 c hc) e he), fun p hp => of_decide_eq_true (List.all_eq_true.mp h6 p hp), fun x hx => of_decide_eq_true (List.all_eq_true.mp h7 x hx), fun x hx => of_decide_eq_true (List.all_eq_true.mp h8 x hx),
    fun p hp => He.meth_ok (List.all_eq_true.mp h9 p hp), fun c hc => He.mkr_ok (List.all_eq_true.mp h10 c hc), fun p hp => ?_, fun ne => ?_⟩
  · obtain ⟨a, b⟩ := He.ba (List.all_eq_true.mp h11 p hp)
    obtain ⟨b, d⟩ := He.ba b
    obtain ⟨d, e⟩ := He.ba d
    refine ⟨of_decide_eq_true a, of_decide_eq_true b, of_decide_eq_true d, ?_⟩
    unfold prS
    cases z : PySem.W.recIn K (maS K p.1 p.2) "property" with
    | none => rw [z] at e; cases e
    | some l =>
      rw [z] at e
      match l, e with
      | .ref f :: rest, _ => exact ⟨rest, rfl⟩
  · rw [Bool.or_eq_true] at h12
    rcases h12 with z | z
    · exact absurd (List.isEmpty_iff.mp z) ne
    · split at z
      · rename_i q e
        rw [e, of_decide_eq_true z]
      · cases z
/-- what is static, of a table -/
def TabOk.G (T : TabOk t K) : Ga where
  K := K
  ca := gaS K
  cs := t.cs
  cok := T.cs
  kit := T.kit
  jv := fun _ _ _ => True
  jm := fun _ _ => trivial
  xs := t.xs
  xm := T.xm
end
theorem mem_ix {α : Type} {l : List α} {x : α} (i : Nat) (h : l[i]? = some x := by rfl) : x ∈ l := List.mem_of_getElem? h
/-- one def -/
structure Df where
  ad : PySem.W.Frag → Addr
  name : Str
  qual : Str
  params : Arguments
  body : List Stmt
  scope : Scope
  dfl : List V := []
def fnA (K : PySem.W.Frag) (a : Addr) : He.FnW := match K.lookup a with
  | some ⟨_, _, .func fd, _⟩ => some (fd.name, fd.qualname, fd.params, fd.body, fd.scope, fd.globals, fd.closure, fd.builtins)
  | _ => none
def Df.val (d : Df) : He.FnW := some (d.name, d.qual, d.params, .stmts d.body, d.scope, mainGlobals, [], builtinsNs)
def Df.ok (K : PySem.W.Frag) (d : Df) : Bool := PySem.W.keepIn K (.ref (d.ad K)) && (match K.lookup (d.ad K) with
  | some ⟨_, _, .func fd, _⟩ => PySem.W.codeIn K fd.code d.qual && He.dflB K fd.defaults d.dfl
  | _ => false)
theorem Df.funD {K : PySem.W.Frag} {d : Df} (e : fnA K (d.ad K) = d.val) (c : d.ok K = true) : ∃ fd, FunD K d.name d.qual d.params d.body d.scope d.dfl [] (d.ad K) fd := by
  obtain ⟨kp, c2⟩ := He.ba c
  unfold fnA at e
  cases q : K.lookup (d.ad K) with
  | none =>
    rw [q] at c2
    cases c2
  | some o =>
    obtain ⟨oc, od, dt, osl⟩ := o
    rw [q] at c2 e
    cases dt with
    | func fd =>
      obtain ⟨n1, n2, n3, n4, n5, n6, n7, n8, n9, n10, n11, n12, n13, n14, n15⟩ := fd
      have e2 : (some (n1, n2, n3, n4, n5, n6, n7, n15) : He.FnW) = some (d.name, d.qual, d.params, .stmts d.body, d.scope, mainGlobals, [], builtinsNs) := e
      simp only [Option.some.injEq, Prod.mk.injEq] at e2
      obtain ⟨h1, h2, h3, h4, h5, h6, h7, h8⟩ := e2
      subst h1 h2 h3 h4 h5 h6 h7 h8
      have c3 : (PySem.W.codeIn K n13 d.qual && He.dflB K n8 d.dfl) = true := c2
      obtain ⟨k1, k3⟩ := He.ba c3
      exact ⟨_, ⟨oc, od, n8, n9, n10, n11, n12, n13, n14, osl, rfl, q, k1, He.dflB_ok k3, .inl rfl⟩, kp⟩
    | _ => cases c2
def obsM (t : Tab) (ex : PySem.W.Frag → Bool) (fn : List Df) (K : PySem.W.Frag) : He.AlD := (t.ok K && (ex K && fn.all fun d => d.ok K), fn.map fun d => fnA K (d.ad K))
def valM (fn : List Df) : He.AlD := (true, fn.map Df.val)
def SaysM (t : Tab) (ex : PySem.W.Frag → Bool) (fn : List Df) (K : PySem.W.Frag) : Prop := obsM t ex fn K = valM fn
def obsMG (n : Nat) (t : Tab) (ex : PySem.W.Frag → Bool) (fn : List Df) (g : Addr → Option Obj) : He.AlD := obsM t ex fn (He.frG g (He.asD g n ++ [PySem.cStatics]))
def hookM (n : Nat) (t : Tab) (ex : PySem.W.Frag → Bool) (fn : List Df) : PySem.W.Hook where
  α := He.AlD
  obs := fun s => obsMG n t ex fn s.heap.get?
  val := fun _ => valM fn
  says := fun _ h => ∃ K : PySem.W.Frag, K.In h ∧ SaysM t ex fn K
  of := fun _ _ e => ⟨_, He.frG_in, e⟩
  keeps := fun _ _ _ ⟨K, hK, c⟩ k => ⟨K, PySem.W.Frag.In.keeps hK k, c⟩
theorem obsMG_eq {n : Nat} {t : Tab} {ex : PySem.W.Frag → Bool} {fn : List Df} {g : Addr → Option Obj} {s : Shared} (h : ∀ a, g a = s.heap.get? a) : obsMG n t ex fn g = (hookM n t ex fn).obs s := by
  have e : g = s.heap.get? := funext h
  rw [e] <;> rfl
section
variable {t : Tab} {ex : PySem.W.Frag → Bool} {fn : List Df} {K : PySem.W.Frag}
theorem SaysM.tab (c : SaysM t ex fn K) : TabOk t K := Tab.ok_of (He.ba (show (t.ok K && (ex K && fn.all fun d => d.ok K)) = true from congrArg (fun z : He.AlD => z.1) c)).1
theorem SaysM.ext (c : SaysM t ex fn K) : ex K = true := (He.ba (He.ba (show (t.ok K && (ex K && fn.all fun d => d.ok K)) = true from congrArg (fun z : He.AlD => z.1) c)).2).1
theorem SaysM.def_ (c : SaysM t ex fn K) (i : Nat) {d : Df} (h : fn[i]? = some d := by rfl) : ∃ fd, FunD K d.name d.qual d.params d.body d.scope d.dfl [] (d.ad K) fd := by
  have c2 := (He.ba (He.ba (show (t.ok K && (ex K && fn.all fun d => d.ok K)) = true from congrArg (fun z : He.AlD => z.1) c)).2).2
  have e : fn.map (fun d => fnA K (d.ad K)) = fn.map Df.val := congrArg (fun z : He.AlD => z.2) c
  have e2 : (fn.map fun d => fnA K (d.ad K))[i]? = (fn.map Df.val)[i]? := by rw [e]
  rw [List.getElem?_map, List.getElem?_map, h] at e2
  exact Df.funD (Option.some.inj e2) (List.all_eq_true.mp c2 d (List.mem_of_getElem? h))
end
/-- a table with its module's names -/
structure Tx (t : Tab) (ex : PySem.W.Frag → Bool) (fn : List Df) (K : PySem.W.Frag) (mg : Str → Option Value) : Prop where
  c : SaysM t ex fn K
  g : ∀ x o, PySem.W.nsIn K mainGlobals x = some o → mg x = o
section
variable {t : Tab} {ex : PySem.W.Frag → Bool} {fn : List Df} {K : PySem.W.Frag} {mg : Str → Option Value}
theorem Tx.tab (T : Tx t ex fn K mg) : TabOk t K := T.c.tab
abbrev Tx.G (T : Tx t ex fn K mg) : Ga := T.tab.G
theorem Tx.bl (T : Tx t ex fn K mg) {x : String} (i : Nat) (h : t.bl[i]? = some x := by rfl) : mg (Str.ofString x) = none := T.g _ _ (T.tab.bl x (mem_ix i h))
theorem Tx.gl (T : Tx t ex fn K mg) {x : String} (i : Nat) (h : t.gl[i]? = some x := by rfl) : mg (Str.ofString x) = some (.ref (gaS K x)) := T.g _ _ (T.tab.gl x (mem_ix i h))
theorem Tx.fl (T : Tx t ex fn K mg) {x : String} (i : Nat) (h : t.fl[i]? = some x := by rfl) : NoAt T.G x := fun c hc => T.tab.fl x (mem_ix i h) c hc
theorem Tx.stb (T : Tx t ex fn K mg) : T.G.Stb := fun _ _ _ _ _ _ => trivial
theorem Tx.jv (T : Tx t ex fn K mg) : ∀ F ad σ, T.G.jv F ad σ := fun _ _ _ => trivial
end
/-! ### the end -/
theorem walk_ofM {l : PySem.W.OpenLaw} {n k : Nat} {q : Program} {loose : List Str} {XP : (Str → Option Value) → Heap → Prop} {YP : World → Heap → Prop} {d : DefRec} {x : Str}
    (hn : l.most = some n) (hn2 : n ≤ sizeLine) (hdf : d.params.defaults = []) (hr : Room k callerA)
    (F : ∀ (w : World) (mg : Str → Option Value) (fa : Addr) (h : Heap), YP w h → h.Ns mainGlobals mg → mg d.name = some (.ref fa) →
      ∃ (K : PySem.W.Frag) (fd : FuncData) (sp : Sp), K.In h ∧ (∀ (s : Shared) (u : Value), BindsTo s fd ⟨[u], []⟩ [(x, u)]) ∧
        (∀ (H : Hp) (a : Addr) (ns : List Int), ns.length ≤ n → Only H → SqL K H a (ns.map V.int) → sp [.ref a] H (fun v _ => v = .bl true) fun _ _ _ => False) ∧
        ∀ base : Heap, K.In base → base.Ns mainGlobals mg → FnOk l.prog w K mg base (L2.CX l.prog w) k fa fd [x] sp) :
    PySem.W.WalkO q loose XP YP l.row.toRowW d [] (fun f vs => PySem.call f vs) := by
  refine Att.attach_call hn hdf fun w s₀ s₁ mg mb fa o pm cd doc a vs ns G Y ho hd hcd hmg hobj hints hlen hg => ?_
  obtain ⟨K, fd, sp, KX, hb, hsp, hF⟩ := F w mg fa _ Y G.T.g hmg
  refine law_call KX G.T.g G.T.b G.T.builtins G.T.nolimit hg hobj hints (Nat.le_trans hlen hn2) hr hF hb (fun H hO hS => hsp H a ns hlen hO hS) fun H e s' z => ?_
  obtain ⟨_, _, _, _, _, _, _, _, _, _, _, _, z⟩ := z
  exact z.elim
theorem sp_law {G : Ga} {m : MF} {H : Hp} {a : Addr} {ns : List Int} (hS : SqL G.K H a (ns.map V.int)) (h : ∃ st, m [.d (.lck ns)] [] = .ok (.d (.bl true)) st) : spM G m [.ref a] H (fun v _ => v = .bl true) fun _ _ _ => False := by
  obtain ⟨st, e⟩ := h
  refine ⟨H, [], [], [.d (.lck ns)], ⟨Same.refl _, rfl, List.nodup_nil, fun _ h => (by simp at h), fun n a o h _ => (by simp at h)⟩, .cons (.lck hS) .nil, ?_⟩
  rw [e]
  intro H' F' ad' _ _ v r
  cases r
  rfl

section
variable {G : Ga} {W : L2.WX} {X : Cx}
@[simp] theorem withD_nil (f : MF) : withD [] f = f := by
  funext ds st
  show f (ds ++ []) st = _
  rw [List.append_nil]
/-! a < b < c -/
def mChain (f f' : O2) (a b c : ME) : ME := fun ρ st => (a ρ st).bind fun x st => (b ρ st).bind fun y st => (f x y st).bind fun z st => match z with
  | .d (.bl true) => (c ρ st).bind fun w st => f' y w st
  | .d (.bl false) => .ok (.d (.bl false)) st
  | _ => .bad
theorem sim_chain {r r' : R2} {f f' : O2} {ta tb tc : TE} {ma mb mc : ME} (hr : SimR2 G r f) (hr' : SimR2 G r' f') (ha : SimE G W ta ma) (hb : SimE G W tb mb) (hc : SimE G W tc mc) : SimE G W (tChain r r' ta tb tc) (mChain f f' ma mb mc) := by
  intro σ ρ H F ad st Q R S h
  refine simE_bind ha R S h fun x v st1 H1 F1 ad1 _ R1 S1 rv h1 => ?_
  refine simE_bind hb R1 S1 h1 fun y w st2 H2 F2 ad2 e2 R2 S2 rw h2 => ?_
  refine hr (fun c d H' => W c d σ H') v w x y H2 F2 ad2 st2 _ (rv.ext e2) rw S2 ?_
  have h3 := Po.bind h2
  revert h3
  generalize f x y st2 = o
  intro h3
  cases o with
  | bad => exact h3
  | er c fs st3 => exact h3
  | ok z st3 =>
    intro H3 F3 ad3 e3 S3 u ru
    have h4 := h3 H3 F3 ad3 e3 S3
    cases z with
    | ref n => exact h4.elim
    | d z => cases z with
      | bl b =>
        cases ru
        refine ⟨b, rfl, ?_⟩
        cases b with
        | true =>
          rw [if_pos rfl]
          exact simE_bind hc (R2.ext e3) S3 h4 fun q t st4 H4 F4 ad4 e4 R4 S4 rt h5 => hr' _ w t y q H4 F4 ad4 st4 Q ((rw.ext e3).ext e4) rt S4 h5
        | false =>
          rw [if_neg Bool.false_ne_true]
          exact fin_same S3 h4 _ (.bl _)
      | _ => exact h4.elim
theorem de_chain {op op' : CmpOp} {r r' : R2} {f f' : O2} {a b c : Expr} {pos : Pos} {ma mb mc : ME} (ho : OpR X (compareOp op) r) (ho' : OpR X (compareOp op') r') (hr : SimR2 G r f) (hr' : SimR2 G r' f') (ha : DE G W X a ma) (hb : DE G W X b mb) (hc : DE G W X c mc) (hm : lastMarks [op, op'] [b, c] = false := by with_unfolding_all rfl) : DE G W X (.Compare a [op, op'] [b, c] pos) (mChain f f' ma mb mc) := by
  obtain ⟨ta, pa, sa⟩ := ha
  obtain ⟨tb, pb, sb⟩ := hb
  obtain ⟨tc, pc, sc⟩ := hc
  exact ⟨_, pe_chain ho ho' pa pb pc hm, sim_chain hr hr' sa sb sc⟩
theorem dt_chain {op op' : CmpOp} {r r' : R2} {f f' : O2} {a b c : Expr} {pos : Pos} {ma mb mc : ME} (hp : ∀ {ta tb tc : TE}, PE X a ta → PE X b tb → PE X c tc → PT X (.Compare a [op, op'] [b, c] pos) (tTest (tChain r r' ta tb tc))) (hr : SimR2 G r f) (hr' : SimR2 G r' f') (ha : DE G W X a ma) (hb : DE G W X b mb) (hc : DE G W X c mc) : DT G W X (.Compare a [op, op'] [b, c] pos) (mTst (mChain f f' ma mb mc)) := by
  obtain ⟨ta, pa, sa⟩ := ha
  obtain ⟨tb, pb, sb⟩ := hb
  obtain ⟨tc, pc, sc⟩ := hc
  exact ⟨_, hp pa pb pc, sim_tst (sim_chain hr hr' sa sb sc)⟩
/-! xs.extend(ys), ys a list or a tuple -/
theorem ext_tup (l : Addr) (items : Array Value) (n : Nat) (b : Addr) (items2 : Array Value) (n2 : Nat) (od : Option Addr) (sl : Array (Option Value)) (hs0 : ¬(!items.isEmpty && Builtin.List.listTooLong (items.size + items2.size)) = true) (hs1 : items.size ≤ sizeLine) (hs2 : items.size + items2.size ≤ sizeLine + 1) :
    Meets (Builtin.«list.extend» ⟨[.ref l, .ref b], []⟩) (fun _ R s => s.heap.get? l = some { cls := .type "list", dict := none, data := .seq items n, slots := #[] } ∧ s.heap.get? b = some { cls := .type "tuple", dict := od, data := .seq items2 n2, slots := sl } ∧ R (.ok (.ret Value.none)) { s with heap := s.heap.update l (Obj.mapSeq fun x => x ++ items2), toks := s.toks }) :=
  .of_wp fun prog w A R s h => by
    obtain ⟨hp, g, d, tk, os⟩ := s
    obtain ⟨hl, hb, h⟩ := h
    have f1 := AutoSeq1.idx_int
    have f2 := AutoSeq1.sub_tuple_tuple
    have f3 := AutoSeq1.sub_list_list
    have f4 := AutoSeq1.sub_tuple_list
    have f5 := AutoSeq1.sub_list_tuple
    have hz' : (items ++ items2).size ≤ sizeLine + 1 := by rw [Array.size_append]; exact hs2
    wp_walk using (wpAny_updateSeq hl rfl (hz := hs1) (_hz' := hz')), wpAny_loadPart' hl, wpAny_loadPart' hb
    exact ⟨_, rfl, h⟩
def rExtendA (K : PySem.W.Frag) : V → List V → Hp → VK → Prop := fun x vs H Q => ∃ l b xs zs, x = .ref l ∧ vs = [.ref b] ∧ H l = some (.lst xs) ∧ (H b = some (.lst zs) ∨ SqT K H b zs) ∧ xs.length + zs.length ≤ sizeLine ∧ Q .non (upd H l (.lst (xs ++ zs)))
theorem mt_extendA : MtM X "list.extend" (rExtendA X.K) := by
  intro pins s σ H x vs v us Q I rx rv h
  obtain ⟨l, b, xs, zs, rfl, rfl, hH, hB | hB, hz, q⟩ := h
  · exact mt_extend pins s σ H _ _ v us Q I rx rv ⟨l, b, xs, zs, rfl, rfl, hH, hB, hz, q⟩
  · cases rx
    obtain ⟨u, rfl, ru⟩ := rv.one
    cases ru
    obtain ⟨z, its, n, r, hl, e⟩ := I.lstM hH
    obtain ⟨its2, r2, p2, _⟩ := I.tuple hB
    obtain ⟨o2, g2, c2, n2, d2⟩ := p2
    have hl2 := r2.length
    have hsz : its.toArray.size + its2.toArray.size ≤ sizeLine := by rw [List.size_toArray, List.size_toArray]; omega
    have hlong : ¬ (!its.toArray.isEmpty && Builtin.List.listTooLong (its.toArray.size + its2.toArray.size)) = true := by
      rw [notLongL hsz, Bool.and_false]
      exact Bool.false_ne_true
    obtain ⟨oc, od, dt, sl⟩ := o2
    simp only at c2 d2
    subst c2 d2
    refine call_meets F.slot_list_extend ⟨_, e, rfl⟩ F.entry_list_extend (F.args_list_extend_2 _ _)
      (ext_tup l its.toArray n b its2.toArray n2 od sl hlong (by rw [List.size_toArray]; omega) (by omega)) ⟨e, g2, ?_⟩
    refine ⟨.non, _, I.lset (its' := its ++ its2) hH e (by simp) (r.append r2) ?_, rfl, q⟩
    rw [List.length_append]
    omega
def seqD : Va → Option (List D)
  | .d (.lst ys) => some ys
  | .d (.tup ys) => some ys
  | _ => none
def oExtend : OM
  | .ref n, [y], st => match st[n]?, seqD y with
    | some (.lst xs), some ys => if xs.length + ys.length ≤ cap then .ok (.d .non) (st.set n (.lst (xs ++ ys.map Va.d))) else .bad
    | _, _ => .bad
  | _, _, _ => .bad
theorem sim_extend : SimM G (rExtendA G.K) oExtend := by
  intro Wv x dx vs ds H F ad st Q rx rv S h
  cases dx with
  | d x => cases ds with
    | nil => exact h.elim
    | cons d ds => cases ds <;> exact h.elim
  | ref n =>
    cases rv with
    | nil => exact h.elim
    | @cons v y _ _ r t => cases t with
      | cons _ _ => exact h.elim
      | nil =>
        obtain ⟨a, ha, rfl⟩ := rx
        replace h : Po G Wv H F ad (QV G Q) (match st[n]?, seqD y with
          | some (.lst xs), some ys => if xs.length + ys.length ≤ cap then .ok (.d .non) (st.set n (.lst (xs ++ ys.map Va.d))) else .bad
          | _, _ => .bad) := h
        cases z : st[n]? with
        | none => rw [z] at h; exact h.elim
        | some ob =>
          rw [z] at h
          cases ob with
          | lst xs =>
            obtain ⟨ws, q1, q2⟩ := S.get ha z
            have key : ∀ (b : Addr) (us : List V) (es : List D), v = .ref b → (H b = some (.lst us) ∨ SqT G.K H b us) → Reps G F us es → Po G Wv H F ad (QV G Q) (if xs.length + es.length ≤ cap then .ok (.d .non) (st.set n (.lst (xs ++ es.map Va.d))) else .bad) → rExtendA G.K (.ref a) [v] H Q := by
              intro b us es e hb t1 h
              subst e
              split at h
              · rename_i hc
                refine ⟨a, b, ws, us, rfl, rfl, q1, hb, by rw [Paired.length q2, t1.length]; exact cap_ok hc, ?_⟩
                have E := ext_mut (o := .lst (ws ++ us)) S ha
                exact h _ _ _ E (S.mut (m := .lst (xs ++ es.map Va.d)) ha ⟨_, upd_same, Paired.append q2 t1.va⟩) _ .non
              · exact h.elim
            cases y with
            | ref _ => exact h.elim
            | d y => cases r with
              | @lst b us es g1 t1 => exact key b us es rfl (.inl (S.sub _ _ g1)) t1 h
              | @tup b us es g1 t1 => exact key b us es rfl (.inr (sqT_same S.sub g1)) t1 h
              | _ => exact h.elim
          | _ => exact h.elim
theorem mt_extend' (hK : X.K = G.K) : MtM X "list.extend" (rExtendA G.K) := by rw [← hK]; exact mt_extendA
end
theorem fund_ok0 {P : Program} {w : World} {K : PySem.W.Frag} {mg : Str → Option Value} {base : Heap} {x qual : Str} {params : Arguments} {body : List Stmt} {scope : Scope} {dvs : List V} {kws : List (Str × V)} {f : Addr} {fd : FuncData} {N ps : List Str} {k : Nat} {sp : Sp} (F : FunD K x qual params body scope dvs kws f fd) (S : FnScope N ps scope) (len : ∀ vs H Q E, sp vs H Q E → vs.length = ps.length)
    (hbody : ∀ (cdv : Value) (A : Around) (outer : List Env) (s : Shared) (H : Hp) (vs : List V) (Q : VK) (E : XK), Room k (A.deeper (PyProof.Rows.envOfC qual scope s.heap.objs.size f cdv)) → sp vs H Q E →
      ∃ t, PSs (cxOf CX0 P w K mg base N qual scope f cdv A outer s H E).nox body t ∧ t { nx := fun _ H' => Q .non H', rt := Q } (L2.start N vs) H) : FnOk P w K mg base CX0 (k + 1) f fd ps sp :=
  F.ok S len fun cdv A outer s H vs Q E hr h => by
    obtain ⟨t, h1, h2⟩ := hbody cdv A outer s H vs Q E hr h
    exact ⟨t, h1.nox, h2⟩

section
variable {G : Ga} {W : L2.WX} {X : Cx}
/-- a way that is not gone -/
def mBad : MS := fun _ _ => .bad
theorem ds_never {s : Stmt} (h : PS X s tNever) : DS G W X s mBad := ⟨_, h, fun σ ρ H F ad st D R S h => h.elim⟩
/-! from here on the thing in slot i is known to be itself -/
def isRefD : D → Bool
  | .lst _ => true
  | .tup _ => true
  | .obj _ _ => true
  | _ => false
def isFlatD : D → Bool
  | .non => true
  | .bl _ => true
  | .int _ => true
  | .str _ => true
  | _ => false
open Classical in
noncomputable def mId (i : Nat) (b : MS) : MS := fun ρ st => match ρ[i]? with
  | some (some (.d x)) => if isRefD x = true then (if h : ∃ r, ∀ a, b (ρ.set i (some (.d (.idn x a)))) st = r then h.choose else .bad)
    else if isFlatD x = true then b ρ st else .bad
  | _ => .bad
theorem mId_eq {i : Nat} {b : MS} {ρ : Ev} {st : Sto} {x : D} {r : Out} (h1 : ρ[i]? = some (some (.d x))) (hx : isRefD x = true) (h : ∀ a, b (ρ.set i (some (.d (.idn x a)))) st = r) : mId i b ρ st = r := by
  have q : ∃ r, ∀ a, b (ρ.set i (some (.d (.idn x a)))) st = r := ⟨r, h⟩
  unfold mId
  rw [h1]
  simp only [hx, if_true, dif_pos q]
  rw [← q.choose_spec 0, h 0]
theorem mId_flat {i : Nat} {b : MS} {ρ : Ev} {st : Sto} {x : D} (h1 : ρ[i]? = some (some (.d x))) (hx : isFlatD x = true) : mId i b ρ st = b ρ st := by
  unfold mId
  rw [h1]
  cases x <;> first | rfl | cases hx
theorem dss_id {i : Nat} {ss : List Stmt} {m : MS} (h : DSs G W X ss m) : DSs G W X ss (mId i m) := by
  obtain ⟨t, p, s⟩ := h
  refine ⟨t, p, ?_⟩
  intro σ ρ H F ad st D R S h
  unfold mId at h
  split at h
  · rename_i x e
    obtain ⟨v, h1, h2⟩ := R.at_ i _ e
    split at h
    · rename_i hx
      split at h
      · rename_i hc
        have hr : ∃ a, v = .ref a := by
          cases x <;> first | (cases hx) | skip
          all_goals (cases h2; exact ⟨_, rfl⟩)
        obtain ⟨a, rfl⟩ := hr
        rw [← hc.choose_spec a] at h
        refine s σ _ H F ad st D ⟨by rw [List.length_set]; exact R.len, fun j d ej => ?_, R.j⟩ S h
        by_cases q : i = j
        · subst q
          rw [List.getElem?_set_self (List.getElem?_eq_some_iff.mp e).1] at ej
          cases ej
          exact ⟨_, h1, .idn h2⟩
        · rw [List.getElem?_set_ne q] at ej
          exact R.at_ j d ej
      · exact h.elim
    · split at h
      · exact s σ ρ H F ad st D R S h
      · exact h.elim
  · exact h.elim
end

/-! M13: mirrors worked out -/
theorem Res.bind_ok {α β : Type} (a : α) (st : Sto) (f : α → Sto → Res β) : (Res.ok a st).bind f = f a st := rfl
theorem Res.bind_er {α β : Type} (c : String) (fs : List (String × Va)) (st : Sto) (f : α → Sto → Res β) : (Res.er c fs st : Res α).bind f = .er c fs st := rfl
theorem Res.bind_bad {α β : Type} (f : α → Sto → Res β) : (Res.bad : Res α).bind f = .bad := rfl
theorem mVar_0 (x : Va) (ρ : Ev) (st : Sto) : mVar 0 (some x :: ρ) st = .ok (strip x) st := rfl
theorem mVar_s (n : Nat) (x : Option Va) (ρ : Ev) (st : Sto) : mVar (n + 1) (x :: ρ) st = mVar n ρ st := rfl
theorem mVarI_0 (x : Va) (ρ : Ev) (st : Sto) : mVarI 0 (some x :: ρ) st = .ok x st := rfl
theorem mVarI_s (n : Nat) (x : Option Va) (ρ : Ev) (st : Sto) : mVarI (n + 1) (x :: ρ) st = mVarI n ρ st := rfl
theorem strip_ref (n : Nat) : strip (.ref n) = .ref n := rfl
theorem strip_non : strip (.d .non) = .d .non := rfl
theorem strip_bl (b : Bool) : strip (.d (.bl b)) = .d (.bl b) := rfl
theorem strip_int (b : Int) : strip (.d (.int b)) = .d (.int b) := rfl
theorem strip_str (b : Str) : strip (.d (.str b)) = .d (.str b) := rfl
theorem strip_lst (b : List D) : strip (.d (.lst b)) = .d (.lst b) := rfl
theorem strip_tup (b : List D) : strip (.d (.tup b)) = .d (.tup b) := rfl
theorem strip_obj (c : String) (b : List (String × D)) : strip (.d (.obj c b)) = .d (.obj c b) := rfl
theorem strip_lck (b : List Int) : strip (.d (.lck b)) = .d (.lck b) := rfl
theorem strip_idn (x : D) (a : Addr) : strip (.d (.idn x a)) = .d x := rfl
theorem mFun_eq (n ns : Nat) (b : MS) (ds : List Va) (st : Sto) (h : ds.length = n) : mFun n ns b ds st = (match b (ds.map some ++ List.replicate (ns - n) none) st with
  | .nx _ st => .ok (.d .non) st
  | .rt v st => .ok v st
  | .er c fs _ st => .er c fs st
  | _ => .bad) := if_pos h
def retO : Out → Res Va
  | .nx _ st => .ok (.d .non) st
  | .rt v st => .ok v st
  | .er c fs _ st => .er c fs st
  | _ => .bad
theorem mFun_eq' (n ns : Nat) (b : MS) (ds : List Va) (st : Sto) (h : ds.length = n) : mFun n ns b ds st = retO (b (ds.map some ++ List.replicate (ns - n) none) st) := by
  rw [mFun_eq _ _ _ _ _ h]
  cases b (ds.map some ++ List.replicate (ns - n) none) st <;> rfl
theorem outE_ok (v : Va) (st : Sto) (ρ : Ev) (k : Va → Sto → Out) : outE (.ok v st) ρ k = k v st := rfl
theorem outT_ok (v : Bool) (st : Sto) (ρ : Ev) (k : Bool → Sto → Out) : outT (.ok v st) ρ k = k v st := rfl
theorem outE_er (c : String) (fs : List (String × Va)) (st : Sto) (ρ : Ev) (k : Va → Sto → Out) : outE (.er c fs st) ρ k = .er c fs ρ st := rfl
def seqO (o : Out) (b : MS) : Out := match o with
  | .nx ρ st => b ρ st
  | o => o
theorem mSeq_eq (a b : MS) (ρ : Ev) (st : Sto) : mSeq a b ρ st = seqO (a ρ st) b := by
  unfold mSeq seqO
  cases a ρ st <;> rfl
theorem seqO_nx (ρ : Ev) (st : Sto) (b : MS) : seqO (.nx ρ st) b = b ρ st := rfl
theorem seqO_rt (v : Va) (st : Sto) (b : MS) : seqO (.rt v st) b = .rt v st := rfl
theorem seqO_er (c : String) (fs : List (String × Va)) (ρ : Ev) (st : Sto) (b : MS) : seqO (.er c fs ρ st) b = .er c fs ρ st := rfl
theorem retO_rt (v : Va) (st : Sto) : retO (.rt v st) = .ok v st := rfl
theorem retO_nx (ρ : Ev) (st : Sto) : retO (.nx ρ st) = .ok (.d .non) st := rfl
theorem retO_er (c : String) (fs : List (String × Va)) (ρ : Ev) (st : Sto) : retO (.er c fs ρ st) = .er c fs st := rfl
theorem seqO_ite (c : Prop) [Decidable c] (x y : Out) (b : MS) : seqO (if c then x else y) b = if c then seqO x b else seqO y b := by split <;> rfl
theorem retO_ite (c : Prop) [Decidable c] (x y : Out) : retO (if c then x else y) = if c then retO x else retO y := by split <;> rfl
theorem bind_ite {α β : Type} (c : Prop) [Decidable c] (x y : Res α) (f : α → Sto → Res β) : (if c then x else y).bind f = if c then x.bind f else y.bind f := by split <;> rfl
theorem outE_ite (c : Prop) [Decidable c] (x y : Res Va) (ρ : Ev) (k : Va → Sto → Out) : outE (if c then x else y) ρ k = if c then outE x ρ k else outE y ρ k := by split <;> rfl
theorem outT_ite (c : Prop) [Decidable c] (x y : Res Bool) (ρ : Ev) (k : Bool → Sto → Out) : outT (if c then x else y) ρ k = if c then outT x ρ k else outT y ρ k := by split <;> rfl
theorem fdiv_ok {i j : Int} (st : Sto) (h : CDivX i j) : oFdiv (.d (.int i)) (.d (.int j)) st = .ok (.d (.int (i.fdiv j))) st := if_pos h
theorem mod_ok {i j : Int} (st : Sto) (h : j ≠ 0) : oMod (.d (.int i)) (.d (.int j)) st = .ok (.d (.int (i.fmod j))) st := if_pos h
theorem mul_ok {i j : Int} (st : Sto) (h : CMulW i j) : oMul (.d (.int i)) (.d (.int j)) st = .ok (.d (.int (i * j))) st := if_pos h
theorem add_ii (i j : Int) (st : Sto) : oAdd (.d (.int i)) (.d (.int j)) st = .ok (.d (.int (i + j))) st := rfl
theorem sub_ii (i j : Int) (st : Sto) : oSub (.d (.int i)) (.d (.int j)) st = .ok (.d (.int (i - j))) st := rfl
theorem lt_ii (i j : Int) (st : Sto) : oLt (.d (.int i)) (.d (.int j)) st = .ok (.d (.bl (decide (i < j)))) st := rfl
theorem le_ii (i j : Int) (st : Sto) : oLe (.d (.int i)) (.d (.int j)) st = .ok (.d (.bl (decide (i ≤ j)))) st := rfl
theorem gt_ii (i j : Int) (st : Sto) : oGt (.d (.int i)) (.d (.int j)) st = .ok (.d (.bl (decide (j < i)))) st := rfl
theorem ge_ii (i j : Int) (st : Sto) : oGe (.d (.int i)) (.d (.int j)) st = .ok (.d (.bl (decide (j ≤ i)))) st := rfl
theorem eq_ii (i j : Int) (st : Sto) : oEq (.d (.int i)) (.d (.int j)) st = .ok (.d (.bl (decide (i = j)))) st := rfl
theorem ne_ii (i j : Int) (st : Sto) : oNe (.d (.int i)) (.d (.int j)) st = .ok (.d (.bl (!decide (i = j)))) st := rfl
theorem ix_lst (xs : List D) (i : Int) (x : D) (st : Sto) (h : atI xs i = some x) : oIx (.d (.lst xs)) (.d (.int i)) st = .ok (.d x) st := by
  unfold oIx
  simp only [h]
theorem ix_tup (xs : List D) (i : Int) (x : D) (st : Sto) (h : atI xs i = some x) : oIx (.d (.tup xs)) (.d (.int i)) st = .ok (.d x) st := by
  unfold oIx
  simp only [h]
theorem ix_lck (xs : List Int) (i : Int) (x : Int) (st : Sto) (h : atI xs i = some x) : oIx (.d (.lck xs)) (.d (.int i)) st = .ok (.d (.int x)) st := by
  unfold oIx
  simp only [h]
theorem ix_ref (n : Nat) (xs : List Va) (i : Int) (x : Va) (st : Sto) (h0 : st[n]? = some (.lst xs)) (h : atI xs i = some x) : oIx (.ref n) (.d (.int i)) st = .ok x st := by
  unfold oIx
  simp only [h0, h]
/-- the value of a def that knows nothing of our cells -/
theorem pureF_d {f : MF} {ds : List Va} {es : List D} {st st1 : Sto} {x : D} (h0 : ds? ds = some es) (h : f ds [] = .ok (.d x) st1) : pureF f ds st = .ok (.d x) st := by
  unfold pureF
  rw [h0, h]
  simp only [rsv_d]
theorem pureF_e {f : MF} {ds : List Va} {es : List D} {st st1 : Sto} {c : String} {fs gs : List (String × Va)} (h0 : ds? ds = some es) (h : f ds [] = .er c fs st1) (hr : rsvF st1 (st1.length + 1) fs = some gs) : pureF f ds st = .er c gs st := by
  unfold pureF
  rw [h0, h]
  simp only [hr]
theorem pureF_r {f : MF} {ds : List Va} {es : List D} {st st1 : Sto} {v : Va} {x : D} (h0 : ds? ds = some es) (h : f ds [] = .ok v st1) (hr : rsv st1 (st1.length + 1) v = some x) : pureF f ds st = .ok (.d x) st := by
  unfold pureF
  rw [h0, h]
  simp only [hr]
/-! lists that are made item by item -/
theorem compM_map {α : Type} {g : α → Va} {f : α → Va} {tg : MG} {te : ME} {ρ0 : Ev} {st : Sto} : ∀ {l : List α}, (∀ x ∈ l, ∃ ρ1, tg (g x) ρ0 = some ρ1 ∧ te ρ1 st = .ok (f x) st) → compM none tg mYes te ρ0 (l.map g) st = .ok (l.map f) st
  | [], _ => by
    rw [List.map_nil]
    unfold compM
    rw [if_pos (show gOk none st from trivial)]
    rfl
  | x :: l, h => by
    obtain ⟨ρ1, h1, h2⟩ := h x (List.mem_cons_self ..)
    rw [List.map_cons]
    unfold compM
    rw [if_pos (show gOk none st from trivial), h1]
    simp only [mYes, noEr, Res.bind_ok, if_true, h2]
    rw [compM_map fun y hy => h y (List.mem_cons_of_mem _ hy)]
    rfl
theorem mLc_map {α : Type} (l : List α) (g : α → Va) (f : α → D) {own : List Nat} {mi : MI} {tg : MG} {te : ME} {ρ : Ev} {st st1 : Sto} (h : mi ρ st = .ok ⟨l.map g, none⟩ st1) (hl : l.length ≤ cap)
    (he : ∀ x ∈ l, ∃ ρ1, tg (g x) (wipeE ρ own) = some ρ1 ∧ te ρ1 st1 = .ok (.d (f x)) st1) : mLc own mi tg mYes te ρ st = .ok (.d (.lst (l.map f))) st1 := by
  unfold mLc mLcG
  rw [h]
  simp only [Res.bind_ok, List.length_map, if_pos hl]
  rw [compM_map (f := fun x => Va.d (f x)) he]
  simp only [Res.bind_ok]
  rw [show l.map (fun x => Va.d (f x)) = (l.map f).map Va.d by rw [List.map_map]; rfl, ds?_map]
theorem compM_inv {I : Sto → Prop} {R : D → Prop} {tg : MG} {te : ME} {ρ0 : Ev} : ∀ {l : List Va} {st : Sto}, I st → (∀ x ∈ l, ∀ st, I st → ∃ ρ1 y st1, tg x ρ0 = some ρ1 ∧ te ρ1 st = .ok (.d y) st1 ∧ R y ∧ I st1) → ∃ (ds : List D) (st1 : Sto), compM none tg mYes te ρ0 l st = .ok (ds.map Va.d) st1 ∧ ds.length = l.length ∧ (∀ y ∈ ds, R y) ∧ I st1
  | [], st, hi, _ => ⟨[], st, by unfold compM; rw [if_pos (show gOk none st from trivial)]; rfl, rfl, fun y hy => (by cases hy), hi⟩
  | x :: l, st, hi, h => by
    obtain ⟨ρ1, y, st1, h1, h2, h3, h4⟩ := h x (List.mem_cons_self ..) st hi
    obtain ⟨ds, st2, h5, h6, h7, h8⟩ := compM_inv h4 fun z hz => h z (List.mem_cons_of_mem _ hz)
    refine ⟨y :: ds, st2, ?_, by rw [List.length_cons, List.length_cons, h6], ?_, h8⟩
    · unfold compM
      rw [if_pos (show gOk none st from trivial), h1]
      simp only [mYes, noEr, Res.bind_ok, if_true, h2, h5, List.map_cons]
    · intro z hz
      rcases List.mem_cons.mp hz with rfl | hz
      · exact h3
      · exact h7 z hz
theorem mLc_inv {I : Sto → Prop} {R : D → Prop} {own : List Nat} {mi : MI} {tg : MG} {te : ME} {ρ : Ev} {st st0 : Sto} {l : List Va} (h : mi ρ st = .ok ⟨l, none⟩ st0) (hl : l.length ≤ cap) (hi : I st0)
    (he : ∀ x ∈ l, ∀ st, I st → ∃ ρ1 y st1, tg x (wipeE ρ own) = some ρ1 ∧ te ρ1 st = .ok (.d y) st1 ∧ R y ∧ I st1) : ∃ (ds : List D) (st1 : Sto), mLc own mi tg mYes te ρ st = .ok (.d (.lst ds)) st1 ∧ ds.length = l.length ∧ (∀ y ∈ ds, R y) ∧ I st1 := by
  obtain ⟨ds, st1, h1, h2, h3, h4⟩ := compM_inv hi he
  refine ⟨ds, st1, ?_, h2, h3, h4⟩
  unfold mLc mLcG
  rw [h]
  simp only [Res.bind_ok, if_pos hl, h1, ds?_map]
/-! loops -/
theorem forM_inv {I : Nat → Ev → Sto → Prop} {tg : MG} {b : MS} : ∀ {l : List Va} {k : Nat} {ρ : Ev} {st : Sto}, I k ρ st → (∀ j x, l[j]? = some x → ∀ ρ st, I (k + j) ρ st → ∃ ρ1 ρ2 st2, tg x ρ = some ρ1 ∧ b ρ1 st = .nx ρ2 st2 ∧ I (k + j + 1) ρ2 st2) → ∃ ρ1 st1, forM none tg b l ρ st = .nx ρ1 st1 ∧ I (k + l.length) ρ1 st1
  | [], k, ρ, st, hi, _ => ⟨ρ, st, by unfold forM; rw [if_pos (show gOk none st from trivial)], hi⟩
  | x :: l, k, ρ, st, hi, h => by
    obtain ⟨ρ1, ρ2, st2, h1, h2, h3⟩ := h 0 x rfl ρ st hi
    obtain ⟨ρ3, st3, h4, h5⟩ := forM_inv (k := k + 1) (l := l) (I := I) h3 fun j y hj ρ st hI => by
      have := h (j + 1) y hj ρ st (by rw [show k + (j + 1) = k + 1 + j by omega]; exact hI)
      rw [show k + (j + 1) + 1 = k + 1 + j + 1 by omega] at this
      exact this
    refine ⟨ρ3, st3, ?_, by rw [List.length_cons, show k + (l.length + 1) = k + 1 + l.length by omega]; exact h5⟩
    unfold forM
    rw [if_pos (show gOk none st from trivial), h1]
    simp only [h2, h4]
theorem mFor_inv {I : Nat → Ev → Sto → Prop} {mi : MI} {tg : MG} {b : MS} {l : List Va} {ρ : Ev} {st st0 : Sto} (h : mi ρ st = .ok ⟨l, none⟩ st0) (hi : I 0 ρ st0)
    (hb : ∀ j x, l[j]? = some x → ∀ ρ st, I j ρ st → ∃ ρ1 ρ2 st2, tg x ρ = some ρ1 ∧ b ρ1 st = .nx ρ2 st2 ∧ I (j + 1) ρ2 st2) : ∃ ρ1 st1, mFor mi tg b ρ st = .nx ρ1 st1 ∧ I l.length ρ1 st1 := by
  unfold mFor
  rw [h]
  have := forM_inv (k := 0) (I := I) (tg := tg) (b := b) hi fun j x hj ρ st hI => by
    rw [Nat.zero_add] at hI
    obtain ⟨a, b, c, d⟩ := hb j x hj ρ st hI
    exact ⟨a, b, c, by rw [Nat.zero_add]; exact d⟩
  rw [Nat.zero_add] at this
  exact this
theorem rangeV_eq (lo : Int) (n : Nat) : rangeV lo n = (List.range n).map fun (i : Nat) => Va.d (.int (lo + i)) := rfl
theorem rangeV_len (lo : Int) (n : Nat) : (rangeV lo n).length = n := by simp [rangeV]
theorem rangeV_get {lo : Int} {n j : Nat} {x : Va} (h : (rangeV lo n)[j]? = some x) : x = .d (.int (lo + j)) ∧ j < n := by
  unfold rangeV at h
  rw [List.getElem?_map] at h
  by_cases q : j < n
  · rw [List.getElem?_range q] at h
    cases h
    exact ⟨rfl, q⟩
  · rw [List.getElem?_eq_none (by simp; omega)] at h
    cases h
/-! while -/
theorem mWhile_inv {c : MT} {b : MS} {I : Nat → Ev → Sto → Prop} {Q : Ev → Sto → Prop} (h0 : ∀ n ρ st, I n ρ st → (c ρ st = .ok false st ∧ Q ρ st) ∨ ∃ st1 ρ2 st2 m, c ρ st = .ok true st1 ∧ b ρ st1 = .nx ρ2 st2 ∧ m < n ∧ I m ρ2 st2) : ∀ {n : Nat} {ρ : Ev} {st : Sto}, I n ρ st → ∃ ρ1 st1, mWhile c b ρ st = .nx ρ1 st1 ∧ Q ρ1 st1 := by
  intro n
  induction n using Nat.strongRecOn with
  | _ n ih =>
    intro ρ st hi
    rw [mWhile_step]
    rcases h0 n ρ st hi with ⟨h1, h2⟩ | ⟨st1, ρ2, st2, m, h1, h2, h3, h4⟩
    · rw [h1]
      exact ⟨ρ, st, rfl, h2⟩
    · rw [h1]
      obtain ⟨ρ3, st3, h5, h6⟩ := ih m h3 h4
      refine ⟨ρ3, st3, ?_, h6⟩
      rw [outT_ok]
      simp only [if_true, h2]
      exact h5
theorem gT_tup (n : Nat) (m : List Va → Ev → Option Ev) (xs : List D) (ρ : Ev) : gT n m (.d (.tup xs)) ρ = if xs.length = n then m (xs.map Va.d) ρ else none := rfl
theorem gL_lst (n : Nat) (m : List Va → Ev → Option Ev) (xs : List D) (ρ : Ev) : gL n m (.d (.lst xs)) ρ = if xs.length = n then m (xs.map Va.d) ρ else none := rfl
theorem gsC_cons (m : MG) (r : List Va → Ev → Option Ev) (x : Va) (xs : List Va) (ρ : Ev) : gsC m r (x :: xs) ρ = (m x ρ).bind (r xs) := rfl
theorem gsN_nil (ρ : Ev) : gsN [] ρ = some ρ := rfl
theorem getF_o (f c : String) (fs : List (String × D)) (st : Sto) : getF f (.d (.obj c fs)) st = (fs.lookup f).map Va.d := rfl
theorem getF_r (f : String) (n : Nat) (st : Sto) : getF f (.ref n) st = (match st[n]? with
    | some (.obj _ fs) => fs.lookup f
    | _ => none) := rfl

/-! M14: the parts that all laws share, worked out: pools, draws, greatest divisors -/
noncomputable def gDraw : MF := mFun 2 3 (mSeq (mIfS (mTst (mBin oGt (mBin oIx (mVar 0) (mC (.int 0))) (mC (.int 0)))) (mSeq (mAsg (mBin oMod (mCB oInt (mCons (mBin oIx (mVar 0) (mC (.int 0))) mNil)) (mVar 1)) (gN 2))
      (mSeq (mSetI (mVar 0) (mC (.int 0)) (mBin oFdiv (mBin oIx (mVar 0) (mC (.int 0))) (mVar 1)))
      (mRet (mVar 2)))) mSkip)
      (mSeq (mSetI (mVar 0) (mC (.int 1)) (mBin oMod (mCB oInt (mCons (mBin oAdd (mBin oMul (mBin oIx (mVar 0) (mC (.int 1))) (mC (.int 48271))) (mC (.int 11))) mNil)) (mC (.int 2147483647))))
      (mRet (mBin oMod (mBin oFdiv (mBin oMod (mCB oInt (mCons (mBin oMul (mBin oIx (mVar 0) (mC (.int 1))) (mBin oIx (mVar 0) (mC (.int 1)))) mNil)) (mC (.int 2147483629))) (mC (.int 64))) (mVar 1)))))
noncomputable def gPool : MF := mFun 2 4 (mSeq (mAsg (mC (.int 0)) (gN 2))
      (mSeq (mIfS (mTst (mBin oLt (mVar 1) (mCB oLen (mCons (mVar 0) mNil)))) (mAsg (mBin oIx (mVar 0) (mVar 1)) (gN 2)) mSkip)
      (mSeq (mAsg (mBin oMod (mBin oPow (mBin oAdd (mBin oAdd (mBin oMod (mCB oInt (mCons (mVar 2) mNil)) (mC (.int 2147483629))) (mBin oMul (mBin oMul (mC (.int 7919)) (mVar 1)) (mVar 1))) (mC (.int 31))) (mC (.int 3))) (mC (.int 2147483647))) (gN 3))
      (mSeq (mIfS (mTst (mBin oLt (mVar 2) (mBin oPow (mC (.int 10)) (mC (.int 18))))) (mAsg (mC (.int 0)) (gN 2)) mSkip)
      (mRet (mLstC (mCons (mVar 2) (mCons (mVar 3) mNil))))))))
/-- a pool lies in cell k -/
def PoolAt (k : Nat) (st : Sto) : Prop := ∃ c s : Int, st[k]? = some (.lst [.d (.int c), .d (.int s)]) ∧ 0 ≤ s ∧ s < 2147483647
theorem log2_small {i : Int} {n : Nat} (h : i.natAbs < 2 ^ n) (hn : 0 < n) : i.natAbs.log2 < n := by
  by_cases z : i.natAbs = 0
  · rw [z]; simpa using hn
  · exact (Nat.log2_lt z).mpr h
theorem cdivx {i j : Int} (h0 : j ≠ 0) (h : j.natAbs < 2 ^ 64) : CDivX i j := ⟨h0, Nat.lt_trans (log2_small h (by decide)) (by decide)⟩
theorem cmulw {i j : Int} (h : i.natAbs < 2 ^ 64) (h2 : j.natAbs < 2 ^ 64) : CMulW i j := by
  have := log2_small h (by decide)
  have := log2_small h2 (by decide)
  unfold CMulW
  omega
theorem fmod_pos {i j : Int} (h : 0 < j) : 0 ≤ i.fmod j ∧ i.fmod j < j := ⟨Int.fmod_nonneg_of_pos i h, Int.fmod_lt_of_pos i h⟩
theorem set_get {st : Sto} {k : Nat} {o p : MO} (h : st[k]? = some p) : (st.set k o)[k]? = some o := by
  rw [List.getElem?_set_self (List.getElem?_eq_some_iff.mp h).1]
theorem draw_ok {k : Nat} {st : Sto} {n : Int} (P : PoolAt k st) (hn : 0 < n) (hn2 : n < 1000000) : ∃ d st1, gDraw [.ref k, .d (.int n)] st = .ok (.d (.int d)) st1 ∧ 0 ≤ d ∧ d < n ∧ PoolAt k st1 ∧ st1.length = st.length := by
  obtain ⟨c, s, h, h1, h2⟩ := P
  have i0 : atI [Va.d (.int c), .d (.int s)] 0 = some (.d (.int c)) := rfl
  have i1 : atI [Va.d (.int c), .d (.int s)] 1 = some (.d (.int s)) := rfl
  have x0 : ixN 2 0 = some 0 := rfl
  have x1 : ixN 2 1 = some 1 := rfl
  by_cases hc : 0 < c
  · refine ⟨c.fmod n, st.set k (.lst [.d (.int (c.fdiv n)), .d (.int s)]), ?_, (fmod_pos hn).1, (fmod_pos hn).2, ⟨_, _, set_get h, h1, h2⟩, by rw [List.length_set]⟩
    have a1 := fdiv_ok (i := c) st (cdivx (i := c) (j := n) (by omega) (by omega))
    have a2 := mod_ok (i := c) (j := n) st (by omega)
    unfold gDraw
    simp only [mFun_eq', mSeq_eq, mIfS, mRet, mRetN, mAsg, mPar, mExpr, mSkip, mBrk, mCnt, mBad, mRaise, outE_ok, outT_ok, outE_er, seqO_nx, seqO_rt, seqO_er, retO_rt, retO_nx, retO_er, Res.bind_ok, Res.bind_er, Res.bind_bad, mVar_0, mVar_s, mVarI_0, mVarI_s, strip_ref, strip_non, strip_bl, strip_int, strip_str, strip_lst, strip_tup, strip_obj, strip_lck, strip_idn, mC, mBin, mUn, mTst, mCB, mCons, mNil, mStar, mAnd, mOr, mAndT, mOrT, mNotT, mIf, mTru, truV, mTup, mLst, ds?, ds?_map, mCall, withD, mFld, getF_o, getF_r, oNeg, oNot, oAbs, oMax, oMin, oI1, oI2, oInt, add_ii, sub_ii, lt_ii, le_ii, gt_ii, ge_ii, eq_ii, ne_ii, gN, gT_tup, gL_lst, gsC_cons, gsN_nil, List.map_cons, List.map_nil, List.length_cons, List.length_nil, List.cons_append, List.nil_append, List.append_nil, List.replicate_zero, List.replicate_succ, List.set_cons_zero, List.set_cons_succ, List.zip_cons_cons, List.zip_nil_right, List.foldl_cons, List.foldl_nil, Option.map_some, Option.map_none, Option.bind_some, Nat.reduceAdd, Nat.reduceSub, Nat.reduceEqDiff, Nat.reduceLT, Nat.reduceLeDiff, String.reduceEq, reduceCtorEq, Int.reduceLT, Int.reduceLE, Int.reduceEq, Int.reduceAdd, Int.reduceSub, Int.reduceNeg, Int.reduceMul, String.reduceBEq, decide_true, decide_false, if_true, if_false, ite_true, ite_false, Bool.false_eq_true, Bool.not_true, Bool.not_false, Bool.true_and, Bool.false_and, Bool.and_true, Bool.and_false, Bool.true_or, Bool.false_or, Bool.or_true, Bool.or_false, mSetI, ix_ref k _ _ _ st h i0, hc, decide_true, a1, a2, h, x0]
    try rfl
  · refine ⟨((((s * 48271 + 11).fmod 2147483647 * (s * 48271 + 11).fmod 2147483647).fmod 2147483629).fdiv 64).fmod n, _, ?_, (fmod_pos hn).1, (fmod_pos hn).2, ⟨c, (s * 48271 + 11).fmod 2147483647, set_get h, (fmod_pos (by decide)).1, (fmod_pos (by decide)).2⟩, by rw [List.length_set]⟩
    have g1 := fmod_pos (i := s * 48271 + 11) (j := 2147483647) (by decide)
    have a1 := mul_ok (i := s) (j := 48271) st (cmulw (by omega) (by decide))
    have a2 := fun st => mod_ok (i := s * 48271 + 11) (j := 2147483647) st (by decide)
    have a3 := fun st => mul_ok (i := (s * 48271 + 11).fmod 2147483647) (j := (s * 48271 + 11).fmod 2147483647) st (cmulw (by omega) (by omega))
    have a4 := fun i st => mod_ok (i := i) (j := 2147483629) st (by decide)
    have a5 := fun i st => fdiv_ok (i := i) (j := 64) st (cdivx (by decide) (by decide))
    have a6 := fun i st => mod_ok (i := i) (j := n) st (by omega)
    have h' : (st.set k (.lst [.d (.int c), .d (.int ((s * 48271 + 11).fmod 2147483647))]))[k]? = some (.lst [.d (.int c), .d (.int ((s * 48271 + 11).fmod 2147483647))]) := set_get h
    have i2 : atI [Va.d (.int c), .d (.int ((s * 48271 + 11).fmod 2147483647))] 1 = some (.d (.int ((s * 48271 + 11).fmod 2147483647))) := rfl
    unfold gDraw
    simp only [mFun_eq', mSeq_eq, mIfS, mRet, mRetN, mAsg, mPar, mExpr, mSkip, mBrk, mCnt, mBad, mRaise, outE_ok, outT_ok, outE_er, seqO_nx, seqO_rt, seqO_er, retO_rt, retO_nx, retO_er, Res.bind_ok, Res.bind_er, Res.bind_bad, mVar_0, mVar_s, mVarI_0, mVarI_s, strip_ref, strip_non, strip_bl, strip_int, strip_str, strip_lst, strip_tup, strip_obj, strip_lck, strip_idn, mC, mBin, mUn, mTst, mCB, mCons, mNil, mStar, mAnd, mOr, mAndT, mOrT, mNotT, mIf, mTru, truV, mTup, mLst, ds?, ds?_map, mCall, withD, mFld, getF_o, getF_r, oNeg, oNot, oAbs, oMax, oMin, oI1, oI2, oInt, add_ii, sub_ii, lt_ii, le_ii, gt_ii, ge_ii, eq_ii, ne_ii, gN, gT_tup, gL_lst, gsC_cons, gsN_nil, List.map_cons, List.map_nil, List.length_cons, List.length_nil, List.cons_append, List.nil_append, List.append_nil, List.replicate_zero, List.replicate_succ, List.set_cons_zero, List.set_cons_succ, List.zip_cons_cons, List.zip_nil_right, List.foldl_cons, List.foldl_nil, Option.map_some, Option.map_none, Option.bind_some, Nat.reduceAdd, Nat.reduceSub, Nat.reduceEqDiff, Nat.reduceLT, Nat.reduceLeDiff, String.reduceEq, reduceCtorEq, Int.reduceLT, Int.reduceLE, Int.reduceEq, Int.reduceAdd, Int.reduceSub, Int.reduceNeg, Int.reduceMul, String.reduceBEq, decide_true, decide_false, if_true, if_false, ite_true, ite_false, Bool.false_eq_true, Bool.not_true, Bool.not_false, Bool.true_and, Bool.false_and, Bool.and_true, Bool.and_false, Bool.true_or, Bool.false_or, Bool.or_true, Bool.or_false, mSetI, ix_ref k _ _ _ st h i0, ix_ref k _ _ _ st h i1, hc, decide_false, a1, a2, h, x1, ix_ref k _ _ _ _ h' i2, a3, a4, a5, a6]
theorem pool_ok {ns : List Int} {j : Nat} {st : Sto} (hj : j < 1000) : ∃ st1, gPool [.d (.lck ns), .d (.int j)] st = .ok (.ref st.length) st1 ∧ PoolAt st.length st1 := by
  have key : ∀ c : Int, ∃ s : Int, 0 ≤ s ∧ s < 2147483647 ∧ ∀ (ρ0 ρ1 : Option Va) (st : Sto), mAsg (mBin oMod (mBin oPow (mBin oAdd (mBin oAdd (mBin oMod (mCB oInt (mCons (mVar 2) mNil)) (mC (.int 2147483629))) (mBin oMul (mBin oMul (mC (.int 7919)) (mVar 1)) (mVar 1))) (mC (.int 31))) (mC (.int 3))) (mC (.int 2147483647))) (gN 3) [ρ0, some (.d (.int j)), some (.d (.int c)), ρ1] st = .nx [ρ0, some (.d (.int j)), some (.d (.int c)), some (.d (.int s))] st := fun c => by
    have g1 := fmod_pos (i := c) (j := 2147483629) (by decide)
    have hj1 : (7919 * (j : Int)).natAbs < 2 ^ 64 := by omega
    have b1 : (7919 * (j : Int) * j) ≤ 7919 * 1000 * 1000 := by
      have : (7919 * (j : Int)) * j ≤ (7919 * 1000) * 1000 := Int.mul_le_mul (by omega) (by omega) (by omega) (by omega)
      omega
    have b2 : 0 ≤ 7919 * (j : Int) * j := Int.mul_nonneg (by omega) (by omega)
    have a1 := fun st => mod_ok (i := c) (j := 2147483629) st (by decide)
    have a2 := fun st => mul_ok (i := 7919) (j := j) st (cmulw (by decide) (by omega))
    have a3 := fun st => mul_ok (i := 7919 * j) (j := j) st (cmulw hj1 (by omega))
    have a4 : ∀ st, oPow (.d (.int (c.fmod 2147483629 + 7919 * j * j + 31))) (.d (.int 3)) st = .ok (.d (.int ((c.fmod 2147483629 + 7919 * j * j + 31) ^ 3))) st := fun st => if_pos ⟨by decide, by decide, by omega⟩
    have a5 := fun i st => mod_ok (i := i) (j := 2147483647) st (by decide)
    have g2 := fmod_pos (i := (c.fmod 2147483629 + 7919 * j * j + 31) ^ 3) (j := 2147483647) (by decide)
    refine ⟨((c.fmod 2147483629 + 7919 * j * j + 31) ^ 3).fmod 2147483647, g2.1, g2.2, fun ρ0 ρ1 st => ?_⟩
    simp only [mFun_eq', mSeq_eq, mIfS, mRet, mRetN, mAsg, mPar, mExpr, mSkip, mBrk, mCnt, mBad, mRaise, outE_ok, outT_ok, outE_er, seqO_nx, seqO_rt, seqO_er, retO_rt, retO_nx, retO_er, Res.bind_ok, Res.bind_er, Res.bind_bad, mVar_0, mVar_s, mVarI_0, mVarI_s, strip_ref, strip_non, strip_bl, strip_int, strip_str, strip_lst, strip_tup, strip_obj, strip_lck, strip_idn, mC, mBin, mUn, mTst, mCB, mCons, mNil, mStar, mAnd, mOr, mAndT, mOrT, mNotT, mIf, mTru, truV, mTup, mLst, ds?, ds?_map, mCall, withD, mFld, getF_o, getF_r, oNeg, oNot, oAbs, oMax, oMin, oI1, oI2, oInt, add_ii, sub_ii, lt_ii, le_ii, gt_ii, ge_ii, eq_ii, ne_ii, gN, gT_tup, gL_lst, gsC_cons, gsN_nil, List.map_cons, List.map_nil, List.length_cons, List.length_nil, List.cons_append, List.nil_append, List.append_nil, List.replicate_zero, List.replicate_succ, List.set_cons_zero, List.set_cons_succ, List.zip_cons_cons, List.zip_nil_right, List.foldl_cons, List.foldl_nil, Option.map_some, Option.map_none, Option.bind_some, Nat.reduceAdd, Nat.reduceSub, Nat.reduceEqDiff, Nat.reduceLT, Nat.reduceLeDiff, String.reduceEq, reduceCtorEq, Int.reduceLT, Int.reduceLE, Int.reduceEq, Int.reduceAdd, Int.reduceSub, Int.reduceNeg, Int.reduceMul, String.reduceBEq, decide_true, decide_false, if_true, if_false, ite_true, ite_false, Bool.false_eq_true, Bool.not_true, Bool.not_false, Bool.true_and, Bool.false_and, Bool.and_true, Bool.and_false, Bool.true_or, Bool.false_or, Bool.or_true, Bool.or_false, a1, a2, a3, a4, a5]
  have p18 : ∀ st, oPow (.d (.int 10)) (.d (.int 18)) st = .ok (.d (.int 1000000000000000000)) st := fun st => by
    show (if CPow 10 18 then (Res.ok (.d (.int ((10 : Int) ^ (18 : Int).toNat))) st : Res Va) else .bad) = _
    rw [if_pos ⟨by decide, by decide, by decide⟩]
    rfl
  have fin : ∀ c : Int, ∃ st1, retO (seqO (mSeq (mAsg (mBin oMod (mBin oPow (mBin oAdd (mBin oAdd (mBin oMod (mCB oInt (mCons (mVar 2) mNil)) (mC (.int 2147483629))) (mBin oMul (mBin oMul (mC (.int 7919)) (mVar 1)) (mVar 1))) (mC (.int 31))) (mC (.int 3))) (mC (.int 2147483647))) (gN 3))
      (mSeq (mIfS (mTst (mBin oLt (mVar 2) (mBin oPow (mC (.int 10)) (mC (.int 18))))) (mAsg (mC (.int 0)) (gN 2)) mSkip)
      (mRet (mLstC (mCons (mVar 2) (mCons (mVar 3) mNil))))) [some (.d (.lck ns)), some (.d (.int j)), some (.d (.int c)), none] st) mSkip) = .ok (.ref st.length) st1 ∧ PoolAt st.length st1 := fun c => by
    obtain ⟨s, s1, s2, e⟩ := key c
    rw [mSeq_eq, e, seqO_nx, mSeq_eq]
    by_cases q : c < 1000000000000000000
    · refine ⟨st ++ [.lst [.d (.int 0), .d (.int s)]], ?_, 0, s, by simp, s1, s2⟩
      simp only [mFun_eq', mSeq_eq, mIfS, mRet, mRetN, mAsg, mPar, mExpr, mSkip, mBrk, mCnt, mBad, mRaise, outE_ok, outT_ok, outE_er, seqO_nx, seqO_rt, seqO_er, retO_rt, retO_nx, retO_er, Res.bind_ok, Res.bind_er, Res.bind_bad, mVar_0, mVar_s, mVarI_0, mVarI_s, strip_ref, strip_non, strip_bl, strip_int, strip_str, strip_lst, strip_tup, strip_obj, strip_lck, strip_idn, mC, mBin, mUn, mTst, mCB, mCons, mNil, mStar, mAnd, mOr, mAndT, mOrT, mNotT, mIf, mTru, truV, mTup, mLst, ds?, ds?_map, mCall, withD, mFld, getF_o, getF_r, oNeg, oNot, oAbs, oMax, oMin, oI1, oI2, oInt, add_ii, sub_ii, lt_ii, le_ii, gt_ii, ge_ii, eq_ii, ne_ii, gN, gT_tup, gL_lst, gsC_cons, gsN_nil, List.map_cons, List.map_nil, List.length_cons, List.length_nil, List.cons_append, List.nil_append, List.append_nil, List.replicate_zero, List.replicate_succ, List.set_cons_zero, List.set_cons_succ, List.zip_cons_cons, List.zip_nil_right, List.foldl_cons, List.foldl_nil, Option.map_some, Option.map_none, Option.bind_some, Nat.reduceAdd, Nat.reduceSub, Nat.reduceEqDiff, Nat.reduceLT, Nat.reduceLeDiff, String.reduceEq, reduceCtorEq, Int.reduceLT, Int.reduceLE, Int.reduceEq, Int.reduceAdd, Int.reduceSub, Int.reduceNeg, Int.reduceMul, String.reduceBEq, decide_true, decide_false, if_true, if_false, ite_true, ite_false, Bool.false_eq_true, Bool.not_true, Bool.not_false, Bool.true_and, Bool.false_and, Bool.and_true, Bool.and_false, Bool.true_or, Bool.false_or, Bool.or_true, Bool.or_false, p18, q, decide_true, mLstC]
      rfl
    · refine ⟨st ++ [.lst [.d (.int c), .d (.int s)]], ?_, c, s, by simp, s1, s2⟩
      simp only [mFun_eq', mSeq_eq, mIfS, mRet, mRetN, mAsg, mPar, mExpr, mSkip, mBrk, mCnt, mBad, mRaise, outE_ok, outT_ok, outE_er, seqO_nx, seqO_rt, seqO_er, retO_rt, retO_nx, retO_er, Res.bind_ok, Res.bind_er, Res.bind_bad, mVar_0, mVar_s, mVarI_0, mVarI_s, strip_ref, strip_non, strip_bl, strip_int, strip_str, strip_lst, strip_tup, strip_obj, strip_lck, strip_idn, mC, mBin, mUn, mTst, mCB, mCons, mNil, mStar, mAnd, mOr, mAndT, mOrT, mNotT, mIf, mTru, truV, mTup, mLst, ds?, ds?_map, mCall, withD, mFld, getF_o, getF_r, oNeg, oNot, oAbs, oMax, oMin, oI1, oI2, oInt, add_ii, sub_ii, lt_ii, le_ii, gt_ii, ge_ii, eq_ii, ne_ii, gN, gT_tup, gL_lst, gsC_cons, gsN_nil, List.map_cons, List.map_nil, List.length_cons, List.length_nil, List.cons_append, List.nil_append, List.append_nil, List.replicate_zero, List.replicate_succ, List.set_cons_zero, List.set_cons_succ, List.zip_cons_cons, List.zip_nil_right, List.foldl_cons, List.foldl_nil, Option.map_some, Option.map_none, Option.bind_some, Nat.reduceAdd, Nat.reduceSub, Nat.reduceEqDiff, Nat.reduceLT, Nat.reduceLeDiff, String.reduceEq, reduceCtorEq, Int.reduceLT, Int.reduceLE, Int.reduceEq, Int.reduceAdd, Int.reduceSub, Int.reduceNeg, Int.reduceMul, String.reduceBEq, decide_true, decide_false, if_true, if_false, ite_true, ite_false, Bool.false_eq_true, Bool.not_true, Bool.not_false, Bool.true_and, Bool.false_and, Bool.and_true, Bool.and_false, Bool.true_or, Bool.false_or, Bool.or_true, Bool.or_false, p18, q, decide_false, mLstC]
      rfl
  have sk : ∀ o : Out, retO (seqO o mSkip) = retO o := fun o => by cases o <;> rfl
  unfold gPool
  by_cases q : j < ns.length
  · obtain ⟨st1, h1, h2⟩ := fin ns[j]
    refine ⟨st1, ?_, h2⟩
    rw [← h1, sk, mFun_eq' 2 4 _ _ _ rfl]
    have e1 : oLen [.d (.lck ns)] st = .ok (.d (.int ns.length)) st := rfl
    have e2 : decide ((j : Int) < ns.length) = true := decide_eq_true (by omega)
    have e3 : atI ns (j : Int) = some ns[j] := by
      unfold atI ixN
      rw [if_pos (by omega), if_pos (by omega)]
      show ns[((j : Int).toNat)]? = _
      rw [Int.toNat_natCast, List.getElem?_eq_getElem q]
    simp only [mFun_eq', mSeq_eq, mIfS, mRet, mRetN, mAsg, mPar, mExpr, mSkip, mBrk, mCnt, mBad, mRaise, outE_ok, outT_ok, outE_er, seqO_nx, seqO_rt, seqO_er, retO_rt, retO_nx, retO_er, Res.bind_ok, Res.bind_er, Res.bind_bad, mVar_0, mVar_s, mVarI_0, mVarI_s, strip_ref, strip_non, strip_bl, strip_int, strip_str, strip_lst, strip_tup, strip_obj, strip_lck, strip_idn, mC, mBin, mUn, mTst, mCB, mCons, mNil, mStar, mAnd, mOr, mAndT, mOrT, mNotT, mIf, mTru, truV, mTup, mLst, ds?, ds?_map, mCall, withD, mFld, getF_o, getF_r, oNeg, oNot, oAbs, oMax, oMin, oI1, oI2, oInt, add_ii, sub_ii, lt_ii, le_ii, gt_ii, ge_ii, eq_ii, ne_ii, gN, gT_tup, gL_lst, gsC_cons, gsN_nil, List.map_cons, List.map_nil, List.length_cons, List.length_nil, List.cons_append, List.nil_append, List.append_nil, List.replicate_zero, List.replicate_succ, List.set_cons_zero, List.set_cons_succ, List.zip_cons_cons, List.zip_nil_right, List.foldl_cons, List.foldl_nil, Option.map_some, Option.map_none, Option.bind_some, Nat.reduceAdd, Nat.reduceSub, Nat.reduceEqDiff, Nat.reduceLT, Nat.reduceLeDiff, String.reduceEq, reduceCtorEq, Int.reduceLT, Int.reduceLE, Int.reduceEq, Int.reduceAdd, Int.reduceSub, Int.reduceNeg, Int.reduceMul, String.reduceBEq, decide_true, decide_false, if_true, if_false, ite_true, ite_false, Bool.false_eq_true, Bool.not_true, Bool.not_false, Bool.true_and, Bool.false_and, Bool.and_true, Bool.and_false, Bool.true_or, Bool.false_or, Bool.or_true, Bool.or_false, e1, e2, ix_lck ns _ _ st e3]
  · obtain ⟨st1, h1, h2⟩ := fin 0
    refine ⟨st1, ?_, h2⟩
    rw [← h1, sk, mFun_eq' 2 4 _ _ _ rfl]
    have e1 : oLen [.d (.lck ns)] st = .ok (.d (.int ns.length)) st := rfl
    have e2 : decide ((j : Int) < ns.length) = false := decide_eq_false (by omega)
    simp only [mFun_eq', mSeq_eq, mIfS, mRet, mRetN, mAsg, mPar, mExpr, mSkip, mBrk, mCnt, mBad, mRaise, outE_ok, outT_ok, outE_er, seqO_nx, seqO_rt, seqO_er, retO_rt, retO_nx, retO_er, Res.bind_ok, Res.bind_er, Res.bind_bad, mVar_0, mVar_s, mVarI_0, mVarI_s, strip_ref, strip_non, strip_bl, strip_int, strip_str, strip_lst, strip_tup, strip_obj, strip_lck, strip_idn, mC, mBin, mUn, mTst, mCB, mCons, mNil, mStar, mAnd, mOr, mAndT, mOrT, mNotT, mIf, mTru, truV, mTup, mLst, ds?, ds?_map, mCall, withD, mFld, getF_o, getF_r, oNeg, oNot, oAbs, oMax, oMin, oI1, oI2, oInt, add_ii, sub_ii, lt_ii, le_ii, gt_ii, ge_ii, eq_ii, ne_ii, gN, gT_tup, gL_lst, gsC_cons, gsN_nil, List.map_cons, List.map_nil, List.length_cons, List.length_nil, List.cons_append, List.nil_append, List.append_nil, List.replicate_zero, List.replicate_succ, List.set_cons_zero, List.set_cons_succ, List.zip_cons_cons, List.zip_nil_right, List.foldl_cons, List.foldl_nil, Option.map_some, Option.map_none, Option.bind_some, Nat.reduceAdd, Nat.reduceSub, Nat.reduceEqDiff, Nat.reduceLT, Nat.reduceLeDiff, String.reduceEq, reduceCtorEq, Int.reduceLT, Int.reduceLE, Int.reduceEq, Int.reduceAdd, Int.reduceSub, Int.reduceNeg, Int.reduceMul, String.reduceBEq, decide_true, decide_false, if_true, if_false, ite_true, ite_false, Bool.false_eq_true, Bool.not_true, Bool.not_false, Bool.true_and, Bool.false_and, Bool.and_true, Bool.and_false, Bool.true_or, Bool.false_or, Bool.or_true, Bool.or_false, e1, e2]

/-! M15: loops over lists that are written out; is_integer, greatest_divisor, Ratio -/
def loopO (o : Out) (k : MS) : Out := match o with
  | .nx ρ st => k ρ st
  | .ct ρ st => k ρ st
  | .bk ρ st => .nx ρ st
  | o => o
theorem loopO_nx (ρ : Ev) (st : Sto) (b : MS) : loopO (.nx ρ st) b = b ρ st := rfl
theorem loopO_ct (ρ : Ev) (st : Sto) (b : MS) : loopO (.ct ρ st) b = b ρ st := rfl
theorem loopO_bk (ρ : Ev) (st : Sto) (b : MS) : loopO (.bk ρ st) b = .nx ρ st := rfl
theorem loopO_rt (v : Va) (st : Sto) (b : MS) : loopO (.rt v st) b = .rt v st := rfl
theorem loopO_er (c : String) (fs : List (String × Va)) (ρ : Ev) (st : Sto) (b : MS) : loopO (.er c fs ρ st) b = .er c fs ρ st := rfl
theorem forM_nil' (tg : MG) (b : MS) (ρ : Ev) (st : Sto) : forM none tg b [] ρ st = .nx ρ st := by
  unfold forM
  rw [if_pos (show gOk none st from trivial)]
theorem forM_cons' (tg : MG) (b : MS) (x : Va) (xs : List Va) (ρ : Ev) (st : Sto) : forM none tg b (x :: xs) ρ st = (match tg x ρ with
    | some ρ1 => loopO (b ρ1 st) (forM none tg b xs)
    | none => .bad) := by
  rw [forM]
  rw [if_pos (show gOk none st from trivial)]
  cases tg x ρ with
  | none => rfl
  | some ρ1 =>
    unfold loopO
    first
      | (simp only; done)
      | (simp only; cases b ρ1 st <;> rfl)
theorem mFor_eq {mi : MI} {tg : MG} {b : MS} {ρ : Ev} {st st0 : Sto} {l : List Va} (h : mi ρ st = .ok ⟨l, none⟩ st0) : mFor mi tg b ρ st = forM none tg b l ρ st0 := by
  unfold mFor
  rw [h]
theorem itS_tup {a : ME} {ρ : Ev} {st st1 : Sto} {xs : List D} (h : a ρ st = .ok (.d (.tup xs)) st1) : mItS a ρ st = .ok ⟨xs.map Va.d, none⟩ st1 := by
  unfold mItS
  rw [h]
  rfl
theorem itS_lst {a : ME} {ρ : Ev} {st st1 : Sto} {xs : List D} (h : a ρ st = .ok (.d (.lst xs)) st1) : mItS a ρ st = .ok ⟨xs.map Va.d, none⟩ st1 := by
  unfold mItS
  rw [h]
  rfl
theorem itR1 {m : MA} {ρ : Ev} {st st1 : Sto} {n : Nat} (h : m ρ st = .ok [.d (.int n)] st1) (hn : n ≤ 1000000000) : mItR1 m ρ st = .ok ⟨rangeV 0 n, none⟩ st1 := by
  unfold mItR1
  rw [h]
  have e : inR (n : Int) = true := by
    unfold inR
    rw [Bool.and_eq_true]
    exact ⟨decide_eq_true (by omega), decide_eq_true (by omega)⟩
  simp only [Res.bind_ok, e, if_true, Int.toNat_natCast]
theorem itZ {m : MA} {ρ : Ev} {st st1 : Sto} {a b : List D} (h : m ρ st = .ok [.d (.lst a), .d (.lst b)] st1) : mItZ m ρ st = .ok ⟨(a.zip b).map fun d => Va.d (.tup [d.1, d.2]), none⟩ st1 := by
  unfold mItZ
  rw [h]
  rfl
/-! is_integer -/
def isI : D → Bool
  | .int _ => true
  | _ => false
def okV : D → Bool
  | .non => true
  | .bl _ => true
  | .int _ => true
  | .str _ => true
  | .lst _ => true
  | .tup _ => true
  | .obj _ _ => true
  | _ => false
noncomputable def gIsInt : MF := mFun 1 1 (mRet (mAnd (mCB oIsi (mCons (mVar 0) (mCons (mC (.ty "int")) mNil))) (mUn oNot (mCB oIsi (mCons (mVar 0) (mCons (mC (.ty "bool")) mNil))))))
theorem isi_ty {x : D} {T : String} {st : Sto} {b : Bool} {g : Tag} (hg : tagOf (.d x) st = some g) (h : isi1 g (.ty T) = some b) : oIsi [.d x, .d (.ty T)] st = .ok (.d (.bl b)) st := by
  unfold oIsi
  simp only [hg, h]
theorem isi_cls {x : D} {T : String} {st : Sto} {b : Bool} {g : Tag} (hg : tagOf (.d x) st = some g) (h : isi1 g (.cls T) = some b) : oIsi [.d x, .d (.cls T)] st = .ok (.d (.bl b)) st := by
  unfold oIsi
  simp only [hg, h]
theorem isInt_ok {x : D} (hx : okV x = true) (st : Sto) : gIsInt [.d x] st = .ok (.d (.bl (isI x))) st := by
  have e1 : ∀ x' : D, ∀ n, tagOf (.d x') st = some (.ty n) → oIsi [.d x', .d (.ty "int")] st = .ok (.d (.bl (n == "int" || (n == "bool" && "int" == "int")))) st := fun x' n h => isi_ty h rfl
  have e2 : ∀ x' : D, ∀ n, tagOf (.d x') st = some (.ty n) → oIsi [.d x', .d (.ty "bool")] st = .ok (.d (.bl (n == "bool" || (n == "bool" && "bool" == "int")))) st := fun x' n h => isi_ty h rfl
  unfold gIsInt
  cases x with
  | non => simp only [mFun_eq', mSeq_eq, mIfS, mRet, mRetN, mAsg, mPar, mExpr, mSkip, mBrk, mCnt, mBad, mRaise, outE_ok, outT_ok, outE_er, seqO_nx, seqO_rt, seqO_er, retO_rt, retO_nx, retO_er, Res.bind_ok, Res.bind_er, Res.bind_bad, mVar_0, mVar_s, mVarI_0, mVarI_s, strip_ref, strip_non, strip_bl, strip_int, strip_str, strip_lst, strip_tup, strip_obj, strip_lck, strip_idn, mC, mBin, mUn, mTst, mCB, mCons, mNil, mStar, mAnd, mOr, mAndT, mOrT, mNotT, mIf, mTru, truV, mTup, mLst, ds?, ds?_map, mCall, withD, mFld, getF_o, getF_r, oNeg, oNot, oAbs, oMax, oMin, oI1, oI2, oInt, add_ii, sub_ii, lt_ii, le_ii, gt_ii, ge_ii, eq_ii, ne_ii, gN, gT_tup, gL_lst, gsC_cons, gsN_nil, List.map_cons, List.map_nil, List.length_cons, List.length_nil, List.cons_append, List.nil_append, List.append_nil, List.replicate_zero, List.replicate_succ, List.set_cons_zero, List.set_cons_succ, List.zip_cons_cons, List.zip_nil_right, List.foldl_cons, List.foldl_nil, Option.map_some, Option.map_none, Option.bind_some, Nat.reduceAdd, Nat.reduceSub, Nat.reduceEqDiff, Nat.reduceLT, Nat.reduceLeDiff, String.reduceEq, reduceCtorEq, Int.reduceLT, Int.reduceLE, Int.reduceEq, Int.reduceAdd, Int.reduceSub, Int.reduceNeg, Int.reduceMul, String.reduceBEq, decide_true, decide_false, if_true, if_false, ite_true, ite_false, Bool.false_eq_true, Bool.not_true, Bool.not_false, Bool.true_and, Bool.false_and, Bool.and_true, Bool.and_false, Bool.true_or, Bool.false_or, Bool.or_true, Bool.or_false, e1 .non _ rfl]; rfl
  | bl b => simp only [mFun_eq', mSeq_eq, mIfS, mRet, mRetN, mAsg, mPar, mExpr, mSkip, mBrk, mCnt, mBad, mRaise, outE_ok, outT_ok, outE_er, seqO_nx, seqO_rt, seqO_er, retO_rt, retO_nx, retO_er, Res.bind_ok, Res.bind_er, Res.bind_bad, mVar_0, mVar_s, mVarI_0, mVarI_s, strip_ref, strip_non, strip_bl, strip_int, strip_str, strip_lst, strip_tup, strip_obj, strip_lck, strip_idn, mC, mBin, mUn, mTst, mCB, mCons, mNil, mStar, mAnd, mOr, mAndT, mOrT, mNotT, mIf, mTru, truV, mTup, mLst, ds?, ds?_map, mCall, withD, mFld, getF_o, getF_r, oNeg, oNot, oAbs, oMax, oMin, oI1, oI2, oInt, add_ii, sub_ii, lt_ii, le_ii, gt_ii, ge_ii, eq_ii, ne_ii, gN, gT_tup, gL_lst, gsC_cons, gsN_nil, List.map_cons, List.map_nil, List.length_cons, List.length_nil, List.cons_append, List.nil_append, List.append_nil, List.replicate_zero, List.replicate_succ, List.set_cons_zero, List.set_cons_succ, List.zip_cons_cons, List.zip_nil_right, List.foldl_cons, List.foldl_nil, Option.map_some, Option.map_none, Option.bind_some, Nat.reduceAdd, Nat.reduceSub, Nat.reduceEqDiff, Nat.reduceLT, Nat.reduceLeDiff, String.reduceEq, reduceCtorEq, Int.reduceLT, Int.reduceLE, Int.reduceEq, Int.reduceAdd, Int.reduceSub, Int.reduceNeg, Int.reduceMul, String.reduceBEq, decide_true, decide_false, if_true, if_false, ite_true, ite_false, Bool.false_eq_true, Bool.not_true, Bool.not_false, Bool.true_and, Bool.false_and, Bool.and_true, Bool.and_false, Bool.true_or, Bool.false_or, Bool.or_true, Bool.or_false, e1 (.bl b) _ rfl, e2 (.bl b) _ rfl]; rfl
  | int i => simp only [mFun_eq', mSeq_eq, mIfS, mRet, mRetN, mAsg, mPar, mExpr, mSkip, mBrk, mCnt, mBad, mRaise, outE_ok, outT_ok, outE_er, seqO_nx, seqO_rt, seqO_er, retO_rt, retO_nx, retO_er, Res.bind_ok, Res.bind_er, Res.bind_bad, mVar_0, mVar_s, mVarI_0, mVarI_s, strip_ref, strip_non, strip_bl, strip_int, strip_str, strip_lst, strip_tup, strip_obj, strip_lck, strip_idn, mC, mBin, mUn, mTst, mCB, mCons, mNil, mStar, mAnd, mOr, mAndT, mOrT, mNotT, mIf, mTru, truV, mTup, mLst, ds?, ds?_map, mCall, withD, mFld, getF_o, getF_r, oNeg, oNot, oAbs, oMax, oMin, oI1, oI2, oInt, add_ii, sub_ii, lt_ii, le_ii, gt_ii, ge_ii, eq_ii, ne_ii, gN, gT_tup, gL_lst, gsC_cons, gsN_nil, List.map_cons, List.map_nil, List.length_cons, List.length_nil, List.cons_append, List.nil_append, List.append_nil, List.replicate_zero, List.replicate_succ, List.set_cons_zero, List.set_cons_succ, List.zip_cons_cons, List.zip_nil_right, List.foldl_cons, List.foldl_nil, Option.map_some, Option.map_none, Option.bind_some, Nat.reduceAdd, Nat.reduceSub, Nat.reduceEqDiff, Nat.reduceLT, Nat.reduceLeDiff, String.reduceEq, reduceCtorEq, Int.reduceLT, Int.reduceLE, Int.reduceEq, Int.reduceAdd, Int.reduceSub, Int.reduceNeg, Int.reduceMul, String.reduceBEq, decide_true, decide_false, if_true, if_false, ite_true, ite_false, Bool.false_eq_true, Bool.not_true, Bool.not_false, Bool.true_and, Bool.false_and, Bool.and_true, Bool.and_false, Bool.true_or, Bool.false_or, Bool.or_true, Bool.or_false, e1 (.int i) _ rfl, e2 (.int i) _ rfl]; rfl
  | str s => simp only [mFun_eq', mSeq_eq, mIfS, mRet, mRetN, mAsg, mPar, mExpr, mSkip, mBrk, mCnt, mBad, mRaise, outE_ok, outT_ok, outE_er, seqO_nx, seqO_rt, seqO_er, retO_rt, retO_nx, retO_er, Res.bind_ok, Res.bind_er, Res.bind_bad, mVar_0, mVar_s, mVarI_0, mVarI_s, strip_ref, strip_non, strip_bl, strip_int, strip_str, strip_lst, strip_tup, strip_obj, strip_lck, strip_idn, mC, mBin, mUn, mTst, mCB, mCons, mNil, mStar, mAnd, mOr, mAndT, mOrT, mNotT, mIf, mTru, truV, mTup, mLst, ds?, ds?_map, mCall, withD, mFld, getF_o, getF_r, oNeg, oNot, oAbs, oMax, oMin, oI1, oI2, oInt, add_ii, sub_ii, lt_ii, le_ii, gt_ii, ge_ii, eq_ii, ne_ii, gN, gT_tup, gL_lst, gsC_cons, gsN_nil, List.map_cons, List.map_nil, List.length_cons, List.length_nil, List.cons_append, List.nil_append, List.append_nil, List.replicate_zero, List.replicate_succ, List.set_cons_zero, List.set_cons_succ, List.zip_cons_cons, List.zip_nil_right, List.foldl_cons, List.foldl_nil, Option.map_some, Option.map_none, Option.bind_some, Nat.reduceAdd, Nat.reduceSub, Nat.reduceEqDiff, Nat.reduceLT, Nat.reduceLeDiff, String.reduceEq, reduceCtorEq, Int.reduceLT, Int.reduceLE, Int.reduceEq, Int.reduceAdd, Int.reduceSub, Int.reduceNeg, Int.reduceMul, String.reduceBEq, decide_true, decide_false, if_true, if_false, ite_true, ite_false, Bool.false_eq_true, Bool.not_true, Bool.not_false, Bool.true_and, Bool.false_and, Bool.and_true, Bool.and_false, Bool.true_or, Bool.false_or, Bool.or_true, Bool.or_false, e1 (.str s) _ rfl]; rfl
  | lst s => simp only [mFun_eq', mSeq_eq, mIfS, mRet, mRetN, mAsg, mPar, mExpr, mSkip, mBrk, mCnt, mBad, mRaise, outE_ok, outT_ok, outE_er, seqO_nx, seqO_rt, seqO_er, retO_rt, retO_nx, retO_er, Res.bind_ok, Res.bind_er, Res.bind_bad, mVar_0, mVar_s, mVarI_0, mVarI_s, strip_ref, strip_non, strip_bl, strip_int, strip_str, strip_lst, strip_tup, strip_obj, strip_lck, strip_idn, mC, mBin, mUn, mTst, mCB, mCons, mNil, mStar, mAnd, mOr, mAndT, mOrT, mNotT, mIf, mTru, truV, mTup, mLst, ds?, ds?_map, mCall, withD, mFld, getF_o, getF_r, oNeg, oNot, oAbs, oMax, oMin, oI1, oI2, oInt, add_ii, sub_ii, lt_ii, le_ii, gt_ii, ge_ii, eq_ii, ne_ii, gN, gT_tup, gL_lst, gsC_cons, gsN_nil, List.map_cons, List.map_nil, List.length_cons, List.length_nil, List.cons_append, List.nil_append, List.append_nil, List.replicate_zero, List.replicate_succ, List.set_cons_zero, List.set_cons_succ, List.zip_cons_cons, List.zip_nil_right, List.foldl_cons, List.foldl_nil, Option.map_some, Option.map_none, Option.bind_some, Nat.reduceAdd, Nat.reduceSub, Nat.reduceEqDiff, Nat.reduceLT, Nat.reduceLeDiff, String.reduceEq, reduceCtorEq, Int.reduceLT, Int.reduceLE, Int.reduceEq, Int.reduceAdd, Int.reduceSub, Int.reduceNeg, Int.reduceMul, String.reduceBEq, decide_true, decide_false, if_true, if_false, ite_true, ite_false, Bool.false_eq_true, Bool.not_true, Bool.not_false, Bool.true_and, Bool.false_and, Bool.and_true, Bool.and_false, Bool.true_or, Bool.false_or, Bool.or_true, Bool.or_false, e1 (.lst s) _ rfl]; rfl
  | tup s => simp only [mFun_eq', mSeq_eq, mIfS, mRet, mRetN, mAsg, mPar, mExpr, mSkip, mBrk, mCnt, mBad, mRaise, outE_ok, outT_ok, outE_er, seqO_nx, seqO_rt, seqO_er, retO_rt, retO_nx, retO_er, Res.bind_ok, Res.bind_er, Res.bind_bad, mVar_0, mVar_s, mVarI_0, mVarI_s, strip_ref, strip_non, strip_bl, strip_int, strip_str, strip_lst, strip_tup, strip_obj, strip_lck, strip_idn, mC, mBin, mUn, mTst, mCB, mCons, mNil, mStar, mAnd, mOr, mAndT, mOrT, mNotT, mIf, mTru, truV, mTup, mLst, ds?, ds?_map, mCall, withD, mFld, getF_o, getF_r, oNeg, oNot, oAbs, oMax, oMin, oI1, oI2, oInt, add_ii, sub_ii, lt_ii, le_ii, gt_ii, ge_ii, eq_ii, ne_ii, gN, gT_tup, gL_lst, gsC_cons, gsN_nil, List.map_cons, List.map_nil, List.length_cons, List.length_nil, List.cons_append, List.nil_append, List.append_nil, List.replicate_zero, List.replicate_succ, List.set_cons_zero, List.set_cons_succ, List.zip_cons_cons, List.zip_nil_right, List.foldl_cons, List.foldl_nil, Option.map_some, Option.map_none, Option.bind_some, Nat.reduceAdd, Nat.reduceSub, Nat.reduceEqDiff, Nat.reduceLT, Nat.reduceLeDiff, String.reduceEq, reduceCtorEq, Int.reduceLT, Int.reduceLE, Int.reduceEq, Int.reduceAdd, Int.reduceSub, Int.reduceNeg, Int.reduceMul, String.reduceBEq, decide_true, decide_false, if_true, if_false, ite_true, ite_false, Bool.false_eq_true, Bool.not_true, Bool.not_false, Bool.true_and, Bool.false_and, Bool.and_true, Bool.and_false, Bool.true_or, Bool.false_or, Bool.or_true, Bool.or_false, e1 (.tup s) _ rfl]; rfl
  | obj c fs =>
    have e3 : oIsi [.d (.obj c fs), .d (.ty "int")] st = .ok (.d (.bl false)) st := isi_ty (g := .cl c) rfl rfl
    simp only [mFun_eq', mSeq_eq, mIfS, mRet, mRetN, mAsg, mPar, mExpr, mSkip, mBrk, mCnt, mBad, mRaise, outE_ok, outT_ok, outE_er, seqO_nx, seqO_rt, seqO_er, retO_rt, retO_nx, retO_er, Res.bind_ok, Res.bind_er, Res.bind_bad, mVar_0, mVar_s, mVarI_0, mVarI_s, strip_ref, strip_non, strip_bl, strip_int, strip_str, strip_lst, strip_tup, strip_obj, strip_lck, strip_idn, mC, mBin, mUn, mTst, mCB, mCons, mNil, mStar, mAnd, mOr, mAndT, mOrT, mNotT, mIf, mTru, truV, mTup, mLst, ds?, ds?_map, mCall, withD, mFld, getF_o, getF_r, oNeg, oNot, oAbs, oMax, oMin, oI1, oI2, oInt, add_ii, sub_ii, lt_ii, le_ii, gt_ii, ge_ii, eq_ii, ne_ii, gN, gT_tup, gL_lst, gsC_cons, gsN_nil, List.map_cons, List.map_nil, List.length_cons, List.length_nil, List.cons_append, List.nil_append, List.append_nil, List.replicate_zero, List.replicate_succ, List.set_cons_zero, List.set_cons_succ, List.zip_cons_cons, List.zip_nil_right, List.foldl_cons, List.foldl_nil, Option.map_some, Option.map_none, Option.bind_some, Nat.reduceAdd, Nat.reduceSub, Nat.reduceEqDiff, Nat.reduceLT, Nat.reduceLeDiff, String.reduceEq, reduceCtorEq, Int.reduceLT, Int.reduceLE, Int.reduceEq, Int.reduceAdd, Int.reduceSub, Int.reduceNeg, Int.reduceMul, String.reduceBEq, decide_true, decide_false, if_true, if_false, ite_true, ite_false, Bool.false_eq_true, Bool.not_true, Bool.not_false, Bool.true_and, Bool.false_and, Bool.and_true, Bool.and_false, Bool.true_or, Bool.false_or, Bool.or_true, Bool.or_false, e3]
    rfl
  | _ => cases hx
theorem pIsInt {x : D} (hx : okV x = true) (st : Sto) : pureF gIsInt [.d x] st = .ok (.d (.bl (isI x))) st := pureF_d rfl (isInt_ok hx [])
/-! greatest_divisor -/
noncomputable def gGcd : MF := mFun 2 2 (mSeq (mPar [0, 1] (mCons (mCB oAbs (mCons (mVar 0) mNil)) (mCons (mCB oAbs (mCons (mVar 1) mNil)) mNil)))
      (mSeq (mWhile (mTst (mBin oGt (mVar 1) (mC (.int 0))))
      (mPar [0, 1] (mCons (mVar 1) (mCons (mBin oMod (mVar 0) (mVar 1)) mNil))))
      (mRet (mVar 0))))
theorem gcd_ok (a b : Int) (st : Sto) : gGcd [.d (.int a), .d (.int b)] st = .ok (.d (.int (Int.gcd a b))) st := by
  have ab : ∀ i : Int, (if i < 0 then -i else i) = (i.natAbs : Int) := fun i => by split <;> omega
  have w : ∃ ρ1 st1, mWhile (mTst (mBin oGt (mVar 1) (mC (.int 0)))) (mPar [0, 1] (mCons (mVar 1) (mCons (mBin oMod (mVar 0) (mVar 1)) mNil))) [some (.d (.int a.natAbs)), some (.d (.int b.natAbs))] st = .nx ρ1 st1 ∧ (st1 = st ∧ ρ1 = [some (.d (.int (Int.gcd a b))), some (.d (.int 0))]) := by
    refine mWhile_inv (I := fun n ρ st1 => st1 = st ∧ ∃ x : Nat, ρ = [some (.d (.int x)), some (.d (.int n))] ∧ Nat.gcd x n = Int.gcd a b) (Q := fun ρ1 st1 => st1 = st ∧ ρ1 = [some (.d (.int (Int.gcd a b))), some (.d (.int 0))]) ?_ (n := b.natAbs) ⟨rfl, a.natAbs, rfl, rfl⟩
    rintro n ρ st1 ⟨rfl, x, rfl, e⟩
    by_cases q : n = 0
    · subst q
      left
      refine ⟨by simp only [mFun_eq', mSeq_eq, mIfS, mRet, mRetN, mAsg, mPar, mExpr, mSkip, mBrk, mCnt, mBad, mRaise, outE_ok, outT_ok, outE_er, seqO_nx, seqO_rt, seqO_er, retO_rt, retO_nx, retO_er, Res.bind_ok, Res.bind_er, Res.bind_bad, mVar_0, mVar_s, mVarI_0, mVarI_s, strip_ref, strip_non, strip_bl, strip_int, strip_str, strip_lst, strip_tup, strip_obj, strip_lck, strip_idn, mC, mBin, mUn, mTst, mCB, mCons, mNil, mStar, mAnd, mOr, mAndT, mOrT, mNotT, mIf, mTru, truV, mTup, mLst, ds?, ds?_map, mCall, withD, mFld, getF_o, getF_r, oNeg, oNot, oAbs, oMax, oMin, oI1, oI2, oInt, add_ii, sub_ii, lt_ii, le_ii, gt_ii, ge_ii, eq_ii, ne_ii, gN, gT_tup, gL_lst, gsC_cons, gsN_nil, List.map_cons, List.map_nil, List.length_cons, List.length_nil, List.cons_append, List.nil_append, List.append_nil, List.replicate_zero, List.replicate_succ, List.set_cons_zero, List.set_cons_succ, List.zip_cons_cons, List.zip_nil_right, List.foldl_cons, List.foldl_nil, Option.map_some, Option.map_none, Option.bind_some, Nat.reduceAdd, Nat.reduceSub, Nat.reduceEqDiff, Nat.reduceLT, Nat.reduceLeDiff, String.reduceEq, reduceCtorEq, Int.reduceLT, Int.reduceLE, Int.reduceEq, Int.reduceAdd, Int.reduceSub, Int.reduceNeg, Int.reduceMul, String.reduceBEq, decide_true, decide_false, if_true, if_false, ite_true, ite_false, Bool.false_eq_true, Bool.not_true, Bool.not_false, Bool.true_and, Bool.false_and, Bool.and_true, Bool.and_false, Bool.true_or, Bool.false_or, Bool.or_true, Bool.or_false]; rfl, rfl, ?_⟩
      rw [← e, Nat.gcd_zero_right]
      rfl
    · right
      have a1 := mod_ok (i := x) (j := n) st1 (by omega)
      have q2 : decide ((0 : Int) < n) = true := decide_eq_true (by omega)
      refine ⟨st1, [some (.d (.int n)), some (.d (.int ((x % n : Nat) : Int)))], st1, x % n, by simp only [mFun_eq', mSeq_eq, mIfS, mRet, mRetN, mAsg, mPar, mExpr, mSkip, mBrk, mCnt, mBad, mRaise, outE_ok, outT_ok, outE_er, seqO_nx, seqO_rt, seqO_er, retO_rt, retO_nx, retO_er, Res.bind_ok, Res.bind_er, Res.bind_bad, mVar_0, mVar_s, mVarI_0, mVarI_s, strip_ref, strip_non, strip_bl, strip_int, strip_str, strip_lst, strip_tup, strip_obj, strip_lck, strip_idn, mC, mBin, mUn, mTst, mCB, mCons, mNil, mStar, mAnd, mOr, mAndT, mOrT, mNotT, mIf, mTru, truV, mTup, mLst, ds?, ds?_map, mCall, withD, mFld, getF_o, getF_r, oNeg, oNot, oAbs, oMax, oMin, oI1, oI2, oInt, add_ii, sub_ii, lt_ii, le_ii, gt_ii, ge_ii, eq_ii, ne_ii, gN, gT_tup, gL_lst, gsC_cons, gsN_nil, List.map_cons, List.map_nil, List.length_cons, List.length_nil, List.cons_append, List.nil_append, List.append_nil, List.replicate_zero, List.replicate_succ, List.set_cons_zero, List.set_cons_succ, List.zip_cons_cons, List.zip_nil_right, List.foldl_cons, List.foldl_nil, Option.map_some, Option.map_none, Option.bind_some, Nat.reduceAdd, Nat.reduceSub, Nat.reduceEqDiff, Nat.reduceLT, Nat.reduceLeDiff, String.reduceEq, reduceCtorEq, Int.reduceLT, Int.reduceLE, Int.reduceEq, Int.reduceAdd, Int.reduceSub, Int.reduceNeg, Int.reduceMul, String.reduceBEq, decide_true, decide_false, if_true, if_false, ite_true, ite_false, Bool.false_eq_true, Bool.not_true, Bool.not_false, Bool.true_and, Bool.false_and, Bool.and_true, Bool.and_false, Bool.true_or, Bool.false_or, Bool.or_true, Bool.or_false, q2], ?_, Nat.mod_lt _ (by omega), rfl, n, rfl, ?_⟩
      · simp only [mFun_eq', mSeq_eq, mIfS, mRet, mRetN, mAsg, mPar, mExpr, mSkip, mBrk, mCnt, mBad, mRaise, outE_ok, outT_ok, outE_er, seqO_nx, seqO_rt, seqO_er, retO_rt, retO_nx, retO_er, Res.bind_ok, Res.bind_er, Res.bind_bad, mVar_0, mVar_s, mVarI_0, mVarI_s, strip_ref, strip_non, strip_bl, strip_int, strip_str, strip_lst, strip_tup, strip_obj, strip_lck, strip_idn, mC, mBin, mUn, mTst, mCB, mCons, mNil, mStar, mAnd, mOr, mAndT, mOrT, mNotT, mIf, mTru, truV, mTup, mLst, ds?, ds?_map, mCall, withD, mFld, getF_o, getF_r, oNeg, oNot, oAbs, oMax, oMin, oI1, oI2, oInt, add_ii, sub_ii, lt_ii, le_ii, gt_ii, ge_ii, eq_ii, ne_ii, gN, gT_tup, gL_lst, gsC_cons, gsN_nil, List.map_cons, List.map_nil, List.length_cons, List.length_nil, List.cons_append, List.nil_append, List.append_nil, List.replicate_zero, List.replicate_succ, List.set_cons_zero, List.set_cons_succ, List.zip_cons_cons, List.zip_nil_right, List.foldl_cons, List.foldl_nil, Option.map_some, Option.map_none, Option.bind_some, Nat.reduceAdd, Nat.reduceSub, Nat.reduceEqDiff, Nat.reduceLT, Nat.reduceLeDiff, String.reduceEq, reduceCtorEq, Int.reduceLT, Int.reduceLE, Int.reduceEq, Int.reduceAdd, Int.reduceSub, Int.reduceNeg, Int.reduceMul, String.reduceBEq, decide_true, decide_false, if_true, if_false, ite_true, ite_false, Bool.false_eq_true, Bool.not_true, Bool.not_false, Bool.true_and, Bool.false_and, Bool.and_true, Bool.and_false, Bool.true_or, Bool.false_or, Bool.or_true, Bool.or_false, a1]
        rw [Int.fmod_eq_emod_of_nonneg _ (by omega)]
        rfl
      · rw [← e, Nat.gcd_comm x n, Nat.gcd_rec n x]
        exact Nat.gcd_comm _ _
  obtain ⟨ρ1, st1, h1, rfl, rfl⟩ := w
  unfold gGcd
  simp only [mFun_eq', mSeq_eq, mIfS, mRet, mRetN, mAsg, mPar, mExpr, mSkip, mBrk, mCnt, mBad, mRaise, outE_ok, outT_ok, outE_er, seqO_nx, seqO_rt, seqO_er, retO_rt, retO_nx, retO_er, Res.bind_ok, Res.bind_er, Res.bind_bad, mVar_0, mVar_s, mVarI_0, mVarI_s, strip_ref, strip_non, strip_bl, strip_int, strip_str, strip_lst, strip_tup, strip_obj, strip_lck, strip_idn, mC, mBin, mUn, mTst, mCB, mCons, mNil, mStar, mAnd, mOr, mAndT, mOrT, mNotT, mIf, mTru, truV, mTup, mLst, ds?, ds?_map, mCall, withD, mFld, getF_o, getF_r, oNeg, oNot, oAbs, oMax, oMin, oI1, oI2, oInt, add_ii, sub_ii, lt_ii, le_ii, gt_ii, ge_ii, eq_ii, ne_ii, gN, gT_tup, gL_lst, gsC_cons, gsN_nil, List.map_cons, List.map_nil, List.length_cons, List.length_nil, List.cons_append, List.nil_append, List.append_nil, List.replicate_zero, List.replicate_succ, List.set_cons_zero, List.set_cons_succ, List.zip_cons_cons, List.zip_nil_right, List.foldl_cons, List.foldl_nil, Option.map_some, Option.map_none, Option.bind_some, Nat.reduceAdd, Nat.reduceSub, Nat.reduceEqDiff, Nat.reduceLT, Nat.reduceLeDiff, String.reduceEq, reduceCtorEq, Int.reduceLT, Int.reduceLE, Int.reduceEq, Int.reduceAdd, Int.reduceSub, Int.reduceNeg, Int.reduceMul, String.reduceBEq, decide_true, decide_false, if_true, if_false, ite_true, ite_false, Bool.false_eq_true, Bool.not_true, Bool.not_false, Bool.true_and, Bool.false_and, Bool.and_true, Bool.and_false, Bool.true_or, Bool.false_or, Bool.or_true, Bool.or_false, ab, h1]
theorem pGcd (a b : Int) (st : Sto) : pureF gGcd [.d (.int a), .d (.int b)] st = .ok (.d (.int (Int.gcd a b))) st := pureF_d rfl (gcd_ok a b [])
/-! Ratio(top, bottom) -/
noncomputable def gRatio : MF := mFun 3 5 (mSeq (mFor (mItS (mTup (mCons (mVar 1) (mCons (mVar 2) mNil)))) (gN 3)
      (mIfS (mNotT (mTru (mCall (withD [] (pureF gIsInt)) (mCons (mVar 3) mNil)))) (mRaise "InvalidRatio" ["value"] (mCons (mVar 3) mNil)) mSkip))
      (mSeq (mIfS (mTst (mBin oEq (mVar 2) (mC (.int 0)))) mBad mSkip)
      (mSeq (mAsg (mCall (withD [] (pureF gGcd)) (mCons (mVar 1) (mCons (mVar 2) mNil))) (gN 4))
      (mSeq (mIfS (mTst (mBin oLt (mVar 2) (mC (.int 0)))) (mAsg (mUn oNeg (mVar 4)) (gN 4)) mSkip)
      (mSeq (mSetF "own_top" (mVar 0) (mBin oFdiv (mVar 1) (mVar 4)))
      (mSetF "own_bottom" (mVar 0) (mBin oFdiv (mVar 2) (mVar 4))))))))
/-- what both parts are divided by -/
def sgd (t b : Int) : Int := if b < 0 then -(Int.gcd t b : Int) else Int.gcd t b
def ratD (p q : Int) : D := .obj "Ratio" [("own_top", .int p), ("own_bottom", .int q)]
theorem ratio_init {t b : Int} (hb : b ≠ 0) (hd : (Int.gcd t b).log2 < 9000) : gRatio [.ref 0, .d (.int t), .d (.int b)] [.obj "Ratio" []] = .ok (.d .non) [.obj "Ratio" [("own_top", .d (.int (t.fdiv (sgd t b)))), ("own_bottom", .d (.int (b.fdiv (sgd t b))))]] := by
  have g0 : Int.gcd t b ≠ 0 := fun z => hb (Int.gcd_eq_zero_iff.mp z).2
  have hs : sgd t b ≠ 0 ∧ (sgd t b).natAbs = Int.gcd t b := by unfold sgd; split <;> omega
  have cd : ∀ i, CDivX i (sgd t b) := fun i => ⟨hs.1, by rw [hs.2]; exact hd⟩
  have a1 := fun st => fdiv_ok (i := t) st (cd t)
  have a2 := fun st => fdiv_ok (i := b) st (cd b)
  have p1 := fun st => pIsInt (x := .int t) rfl st
  have p2 := fun st => pIsInt (x := .int b) rfl st
  have f1 : mFor (mItS (mTup (mCons (mVar 1) (mCons (mVar 2) mNil)))) (gN 3)
      (mIfS (mNotT (mTru (mCall (withD [] (pureF gIsInt)) (mCons (mVar 3) mNil)))) (mRaise "InvalidRatio" ["value"] (mCons (mVar 3) mNil)) mSkip) [some (.ref 0), some (.d (.int t)), some (.d (.int b)), none, none] [.obj "Ratio" []] = .nx [some (.ref 0), some (.d (.int t)), some (.d (.int b)), some (.d (.int b)), none] [.obj "Ratio" []] := by
    rw [mFor_eq (itS_tup (xs := [.int t, .int b]) (by simp only [mFun_eq', mSeq_eq, mIfS, mRet, mRetN, mAsg, mPar, mExpr, mSkip, mBrk, mCnt, mBad, mRaise, outE_ok, outT_ok, outE_er, seqO_nx, seqO_rt, seqO_er, retO_rt, retO_nx, retO_er, Res.bind_ok, Res.bind_er, Res.bind_bad, mVar_0, mVar_s, mVarI_0, mVarI_s, strip_ref, strip_non, strip_bl, strip_int, strip_str, strip_lst, strip_tup, strip_obj, strip_lck, strip_idn, mC, mBin, mUn, mTst, mCB, mCons, mNil, mStar, mAnd, mOr, mAndT, mOrT, mNotT, mIf, mTru, truV, mTup, mLst, ds?, ds?_map, mCall, withD, mFld, getF_o, getF_r, oNeg, oNot, oAbs, oMax, oMin, oI1, oI2, oInt, add_ii, sub_ii, lt_ii, le_ii, gt_ii, ge_ii, eq_ii, ne_ii, gN, gT_tup, gL_lst, gsC_cons, gsN_nil, List.map_cons, List.map_nil, List.length_cons, List.length_nil, List.cons_append, List.nil_append, List.append_nil, List.replicate_zero, List.replicate_succ, List.set_cons_zero, List.set_cons_succ, List.zip_cons_cons, List.zip_nil_right, List.foldl_cons, List.foldl_nil, Option.map_some, Option.map_none, Option.bind_some, Nat.reduceAdd, Nat.reduceSub, Nat.reduceEqDiff, Nat.reduceLT, Nat.reduceLeDiff, String.reduceEq, reduceCtorEq, Int.reduceLT, Int.reduceLE, Int.reduceEq, Int.reduceAdd, Int.reduceSub, Int.reduceNeg, Int.reduceMul, String.reduceBEq, decide_true, decide_false, if_true, if_false, ite_true, ite_false, Bool.false_eq_true, Bool.not_true, Bool.not_false, Bool.true_and, Bool.false_and, Bool.and_true, Bool.and_false, Bool.true_or, Bool.false_or, Bool.or_true, Bool.or_false]; rfl))]
    simp only [mFun_eq', mSeq_eq, mIfS, mRet, mRetN, mAsg, mPar, mExpr, mSkip, mBrk, mCnt, mBad, mRaise, outE_ok, outT_ok, outE_er, seqO_nx, seqO_rt, seqO_er, retO_rt, retO_nx, retO_er, Res.bind_ok, Res.bind_er, Res.bind_bad, mVar_0, mVar_s, mVarI_0, mVarI_s, strip_ref, strip_non, strip_bl, strip_int, strip_str, strip_lst, strip_tup, strip_obj, strip_lck, strip_idn, mC, mBin, mUn, mTst, mCB, mCons, mNil, mStar, mAnd, mOr, mAndT, mOrT, mNotT, mIf, mTru, truV, mTup, mLst, ds?, ds?_map, mCall, withD, mFld, getF_o, getF_r, oNeg, oNot, oAbs, oMax, oMin, oI1, oI2, oInt, add_ii, sub_ii, lt_ii, le_ii, gt_ii, ge_ii, eq_ii, ne_ii, gN, gT_tup, gL_lst, gsC_cons, gsN_nil, List.map_cons, List.map_nil, List.length_cons, List.length_nil, List.cons_append, List.nil_append, List.append_nil, List.replicate_zero, List.replicate_succ, List.set_cons_zero, List.set_cons_succ, List.zip_cons_cons, List.zip_nil_right, List.foldl_cons, List.foldl_nil, Option.map_some, Option.map_none, Option.bind_some, Nat.reduceAdd, Nat.reduceSub, Nat.reduceEqDiff, Nat.reduceLT, Nat.reduceLeDiff, String.reduceEq, reduceCtorEq, Int.reduceLT, Int.reduceLE, Int.reduceEq, Int.reduceAdd, Int.reduceSub, Int.reduceNeg, Int.reduceMul, String.reduceBEq, decide_true, decide_false, if_true, if_false, ite_true, ite_false, Bool.false_eq_true, Bool.not_true, Bool.not_false, Bool.true_and, Bool.false_and, Bool.and_true, Bool.and_false, Bool.true_or, Bool.false_or, Bool.or_true, Bool.or_false, forM_cons', forM_nil', loopO_nx, p1, p2, isI]
  have q0 : decide (b = 0) = false := decide_eq_false hb
  unfold gRatio
  by_cases q : b < 0
  · have es : sgd t b = -(Int.gcd t b : Int) := if_pos q
    rw [es] at a1 a2
    simp only [mFun_eq', mSeq_eq, mIfS, mRet, mRetN, mAsg, mPar, mExpr, mSkip, mBrk, mCnt, mBad, mRaise, outE_ok, outT_ok, outE_er, seqO_nx, seqO_rt, seqO_er, retO_rt, retO_nx, retO_er, Res.bind_ok, Res.bind_er, Res.bind_bad, mVar_0, mVar_s, mVarI_0, mVarI_s, strip_ref, strip_non, strip_bl, strip_int, strip_str, strip_lst, strip_tup, strip_obj, strip_lck, strip_idn, mC, mBin, mUn, mTst, mCB, mCons, mNil, mStar, mAnd, mOr, mAndT, mOrT, mNotT, mIf, mTru, truV, mTup, mLst, ds?, ds?_map, mCall, withD, mFld, getF_o, getF_r, oNeg, oNot, oAbs, oMax, oMin, oI1, oI2, oInt, add_ii, sub_ii, lt_ii, le_ii, gt_ii, ge_ii, eq_ii, ne_ii, gN, gT_tup, gL_lst, gsC_cons, gsN_nil, List.map_cons, List.map_nil, List.length_cons, List.length_nil, List.cons_append, List.nil_append, List.append_nil, List.replicate_zero, List.replicate_succ, List.set_cons_zero, List.set_cons_succ, List.zip_cons_cons, List.zip_nil_right, List.foldl_cons, List.foldl_nil, Option.map_some, Option.map_none, Option.bind_some, Nat.reduceAdd, Nat.reduceSub, Nat.reduceEqDiff, Nat.reduceLT, Nat.reduceLeDiff, String.reduceEq, reduceCtorEq, Int.reduceLT, Int.reduceLE, Int.reduceEq, Int.reduceAdd, Int.reduceSub, Int.reduceNeg, Int.reduceMul, String.reduceBEq, decide_true, decide_false, if_true, if_false, ite_true, ite_false, Bool.false_eq_true, Bool.not_true, Bool.not_false, Bool.true_and, Bool.false_and, Bool.and_true, Bool.and_false, Bool.true_or, Bool.false_or, Bool.or_true, Bool.or_false, f1, q0, pGcd, q, decide_true, mSetF, a1, a2, es, List.getElem?_cons_zero, putS]
  · have es : sgd t b = (Int.gcd t b : Int) := if_neg q
    rw [es] at a1 a2
    simp only [mFun_eq', mSeq_eq, mIfS, mRet, mRetN, mAsg, mPar, mExpr, mSkip, mBrk, mCnt, mBad, mRaise, outE_ok, outT_ok, outE_er, seqO_nx, seqO_rt, seqO_er, retO_rt, retO_nx, retO_er, Res.bind_ok, Res.bind_er, Res.bind_bad, mVar_0, mVar_s, mVarI_0, mVarI_s, strip_ref, strip_non, strip_bl, strip_int, strip_str, strip_lst, strip_tup, strip_obj, strip_lck, strip_idn, mC, mBin, mUn, mTst, mCB, mCons, mNil, mStar, mAnd, mOr, mAndT, mOrT, mNotT, mIf, mTru, truV, mTup, mLst, ds?, ds?_map, mCall, withD, mFld, getF_o, getF_r, oNeg, oNot, oAbs, oMax, oMin, oI1, oI2, oInt, add_ii, sub_ii, lt_ii, le_ii, gt_ii, ge_ii, eq_ii, ne_ii, gN, gT_tup, gL_lst, gsC_cons, gsN_nil, List.map_cons, List.map_nil, List.length_cons, List.length_nil, List.cons_append, List.nil_append, List.append_nil, List.replicate_zero, List.replicate_succ, List.set_cons_zero, List.set_cons_succ, List.zip_cons_cons, List.zip_nil_right, List.foldl_cons, List.foldl_nil, Option.map_some, Option.map_none, Option.bind_some, Nat.reduceAdd, Nat.reduceSub, Nat.reduceEqDiff, Nat.reduceLT, Nat.reduceLeDiff, String.reduceEq, reduceCtorEq, Int.reduceLT, Int.reduceLE, Int.reduceEq, Int.reduceAdd, Int.reduceSub, Int.reduceNeg, Int.reduceMul, String.reduceBEq, decide_true, decide_false, if_true, if_false, ite_true, ite_false, Bool.false_eq_true, Bool.not_true, Bool.not_false, Bool.true_and, Bool.false_and, Bool.and_true, Bool.and_false, Bool.true_or, Bool.false_or, Bool.or_true, Bool.or_false, f1, q0, pGcd, q, decide_false, mSetF, a1, a2, es, List.getElem?_cons_zero, putS]
theorem ratio_ok {t b : Int} (st : Sto) (hb : b ≠ 0) (hd : (Int.gcd t b).log2 < 9000) : makeP "Ratio" (withD [] gRatio) [.d (.int t), .d (.int b)] st = .ok (.d (ratD (t.fdiv (sgd t b)) (b.fdiv (sgd t b)))) st := by
  have h := ratio_init (t := t) (b := b) hb hd
  unfold makeP
  simp only [mFun_eq', mSeq_eq, mIfS, mRet, mRetN, mAsg, mPar, mExpr, mSkip, mBrk, mCnt, mBad, mRaise, outE_ok, outT_ok, outE_er, seqO_nx, seqO_rt, seqO_er, retO_rt, retO_nx, retO_er, Res.bind_ok, Res.bind_er, Res.bind_bad, mVar_0, mVar_s, mVarI_0, mVarI_s, strip_ref, strip_non, strip_bl, strip_int, strip_str, strip_lst, strip_tup, strip_obj, strip_lck, strip_idn, mC, mBin, mUn, mTst, mCB, mCons, mNil, mStar, mAnd, mOr, mAndT, mOrT, mNotT, mIf, mTru, truV, mTup, mLst, ds?, ds?_map, mCall, withD, mFld, getF_o, getF_r, oNeg, oNot, oAbs, oMax, oMin, oI1, oI2, oInt, add_ii, sub_ii, lt_ii, le_ii, gt_ii, ge_ii, eq_ii, ne_ii, gN, gT_tup, gL_lst, gsC_cons, gsN_nil, List.map_cons, List.map_nil, List.length_cons, List.length_nil, List.cons_append, List.nil_append, List.append_nil, List.replicate_zero, List.replicate_succ, List.set_cons_zero, List.set_cons_succ, List.zip_cons_cons, List.zip_nil_right, List.foldl_cons, List.foldl_nil, Option.map_some, Option.map_none, Option.bind_some, Nat.reduceAdd, Nat.reduceSub, Nat.reduceEqDiff, Nat.reduceLT, Nat.reduceLeDiff, String.reduceEq, reduceCtorEq, Int.reduceLT, Int.reduceLE, Int.reduceEq, Int.reduceAdd, Int.reduceSub, Int.reduceNeg, Int.reduceMul, String.reduceBEq, decide_true, decide_false, if_true, if_false, ite_true, ite_false, Bool.false_eq_true, Bool.not_true, Bool.not_false, Bool.true_and, Bool.false_and, Bool.and_true, Bool.and_false, Bool.true_or, Bool.false_or, Bool.or_true, Bool.or_false, h]
  rfl
/-- the fraction is kept, its bottom is above 0 and divides the first one -/
theorem sgd_spec {t b : Int} (hb : b ≠ 0) : t.fdiv (sgd t b) * b = t * b.fdiv (sgd t b) ∧ 0 < b.fdiv (sgd t b) ∧ sgd t b * b.fdiv (sgd t b) = b ∧ sgd t b * t.fdiv (sgd t b) = t ∧ Int.gcd (t.fdiv (sgd t b)) (b.fdiv (sgd t b)) = 1 := by
  have g0 : Int.gcd t b ≠ 0 := fun z => hb (Int.gcd_eq_zero_iff.mp z).2
  obtain ⟨p, hp⟩ := Int.gcd_dvd_left t b
  obtain ⟨r, hr⟩ := Int.gcd_dvd_right t b
  have g1 : (0 : Int) < Int.gcd t b := by omega
  have hg : Int.gcd p r = 1 := by
    have e : Int.gcd t b = Int.gcd (Int.gcd t b * p) (Int.gcd t b * r) := by rw [← hp, ← hr]
    rw [Int.gcd_mul_left] at e
    simp only [Int.natAbs_natCast] at e
    exact Nat.eq_of_mul_eq_mul_left (by omega : 0 < Int.gcd t b) (by omega)
  have key : ∀ g t p : Int, g ≠ 0 → t = g * p → t.fdiv g = p := fun g t p h e => by
    rw [e]
    exact Int.mul_fdiv_cancel_left _ h
  by_cases q : b < 0
  · have es : sgd t b = -(Int.gcd t b : Int) := if_pos q
    have e1 : t.fdiv (sgd t b) = -p := key _ _ _ (by omega) (by rw [es]; grind)
    have e2 : b.fdiv (sgd t b) = -r := key _ _ _ (by omega) (by rw [es]; grind)
    rw [e1, e2, es]
    refine ⟨by grind, ?_, by grind, by grind, by rw [Int.gcd_neg, Int.neg_gcd]; exact hg⟩
    have : r < 0 := Int.not_le.mp fun z => by
      have := Int.mul_nonneg (Int.le_of_lt g1) z
      omega
    omega
  · have es : sgd t b = (Int.gcd t b : Int) := if_neg q
    have e1 : t.fdiv (sgd t b) = p := key _ _ _ (by omega) (by rw [es]; exact hp)
    have e2 : b.fdiv (sgd t b) = r := key _ _ _ (by omega) (by rw [es]; exact hr)
    rw [e1, e2, es]
    refine ⟨by grind, ?_, by grind, by grind, hg⟩
    exact Int.not_le.mp fun z => by
      have := Int.mul_nonpos_of_nonneg_of_nonpos (Int.le_of_lt g1) z
      omega

/-! M16: loops as folds; sizes of integers -/
theorem forM_fold {α β : Type} {g : α → Va} {S : β → Ev → Sto → Prop} {step : β → α → β} {tg : MG} {b : MS} : ∀ {l : List α} {b0 : β} {ρ : Ev} {st : Sto}, S b0 ρ st →
    (∀ l1 x l2, l = l1 ++ x :: l2 → ∀ ρ st, S (l1.foldl step b0) ρ st → ∃ ρ1 ρ2 st2, tg (g x) ρ = some ρ1 ∧ b ρ1 st = .nx ρ2 st2 ∧ S (step (l1.foldl step b0) x) ρ2 st2) →
    ∃ ρ1 st1, forM none tg b (l.map g) ρ st = .nx ρ1 st1 ∧ S (l.foldl step b0) ρ1 st1
  | [], b0, ρ, st, h, _ => ⟨ρ, st, forM_nil' .., h⟩
  | x :: l, b0, ρ, st, h, hb => by
    obtain ⟨ρ1, ρ2, st2, h1, h2, h3⟩ := hb [] x l rfl ρ st h
    obtain ⟨ρ3, st3, h4, h5⟩ := forM_fold (l := l) (b0 := step b0 x) (S := S) (step := step) (g := g) (tg := tg) (b := b) h3 fun l1 y l2 e ρ st hs => hb (x :: l1) y l2 (by rw [e]; rfl) ρ st hs
    refine ⟨ρ3, st3, ?_, h5⟩
    rw [List.map_cons, forM_cons', h1]
    simp only [h2, loopO_nx, h4]
theorem mFor_fold {α β : Type} {g : α → Va} (S : β → Ev → Sto → Prop) (step : β → α → β) {mi : MI} {tg : MG} {b : MS} (l : List α) (b0 : β) {ρ : Ev} {st st0 : Sto} (h : mi ρ st = .ok ⟨l.map g, none⟩ st0) (hs : S b0 ρ st0)
    (hb : ∀ l1 x l2, l = l1 ++ x :: l2 → ∀ ρ st, S (l1.foldl step b0) ρ st → ∃ ρ1 ρ2 st2, tg (g x) ρ = some ρ1 ∧ b ρ1 st = .nx ρ2 st2 ∧ S (step (l1.foldl step b0) x) ρ2 st2) :
    ∃ ρ1 st1, mFor mi tg b ρ st = .nx ρ1 st1 ∧ S (l.foldl step b0) ρ1 st1 := by
  rw [mFor_eq h]
  exact forM_fold hs hb
/-! sizes -/
def Bd (k : Nat) (i : Int) : Prop := i.natAbs < 2 ^ k
theorem Bd.mono {k m : Nat} {i : Int} (h : Bd k i) (le : k ≤ m) : Bd m i := Nat.lt_of_lt_of_le h (Nat.pow_le_pow_right (by decide) le)
theorem Bd.mul {a b : Nat} {i j : Int} (h : Bd a i) (h2 : Bd b j) : Bd (a + b) (i * j) := by
  unfold Bd at *
  rw [Int.natAbs_mul, Nat.pow_add]
  by_cases z : j.natAbs = 0
  · rw [z, Nat.mul_zero]
    exact Nat.mul_pos (Nat.two_pow_pos a) (Nat.two_pow_pos b)
  · exact Nat.mul_lt_mul_of_lt_of_le h (Nat.le_of_lt h2) (by omega)
theorem Bd.add {a : Nat} {i j : Int} (h : Bd a i) (h2 : Bd a j) : Bd (a + 1) (i + j) := by
  unfold Bd at *
  rw [Nat.pow_succ]
  omega
theorem Bd.zero {a : Nat} : Bd a 0 := Nat.two_pow_pos a
theorem Bd.neg {a : Nat} {i : Int} (h : Bd a i) : Bd a (-i) := by unfold Bd; rw [Int.natAbs_neg]; exact h
theorem Bd.log2 {a : Nat} {i : Int} (h : Bd a i) : i.natAbs.log2 ≤ a := by
  by_cases z : i.natAbs = 0
  · rw [z]; exact Nat.zero_le _
  · exact Nat.le_of_lt ((Nat.log2_lt z).mpr h)
theorem Bd.cmul {a b : Nat} {i j : Int} (h : Bd a i) (h2 : Bd b j) (hl : a + b < 1000000) : CMulW i j := by
  have := h.log2
  have := h2.log2
  unfold CMulW
  omega
theorem Bd.cdiv {a : Nat} {i j : Int} (h : Bd a j) (h0 : j ≠ 0) (hl : a < 9000) : CDivX i j := ⟨h0, by have := h.log2; omega⟩
theorem Bd.dvd {a : Nat} {i j : Int} (h : Bd a j) (d : i ∣ j) (h0 : j ≠ 0) : Bd a i := Nat.lt_of_le_of_lt (Nat.le_of_dvd (by omega) (Int.natAbs_dvd_natAbs.mpr d)) h
theorem Bd.sum {a n : Nat} : ∀ {l : List Int}, l.length ≤ 2 ^ n → (∀ x ∈ l, Bd a x) → Bd (a + n) l.sum := by
  have key : ∀ {l : List Int}, (∀ x ∈ l, Bd a x) → l.sum.natAbs ≤ l.length * (2 ^ a - 1) := fun {l} => by
    induction l with
    | nil => intro _; simp
    | cons x l ih =>
      intro h
      have h1 := ih fun y hy => h y (List.mem_cons_of_mem _ hy)
      have h2 : x.natAbs < 2 ^ a := h x (List.mem_cons_self ..)
      rw [List.sum_cons, List.length_cons, Nat.add_mul]
      have := Int.natAbs_add_le x l.sum
      omega
  intro l hl h
  have h1 := key h
  unfold Bd
  have p := Nat.two_pow_pos a
  have : l.length * (2 ^ a - 1) ≤ 2 ^ n * (2 ^ a - 1) := Nat.mul_le_mul_right _ hl
  have q : 2 ^ n * (2 ^ a - 1) < 2 ^ n * 2 ^ a := Nat.mul_lt_mul_of_pos_left (by omega) (Nat.two_pow_pos n)
  rw [Nat.pow_add, Nat.mul_comm (2 ^ a)]
  omega
theorem sum_ints {α : Type} (l : List α) (f : α → Int) (st : Sto) : oSum [.d (.lst (l.map fun y => .int (f y)))] st = .ok (.d (.int (l.map f).sum)) st := by
  unfold oSum oL1
  simp only [lst?]
  rw [show (l.map fun y => D.int (f y)) = (l.map f).map D.int by rw [List.map_map]; rfl, ints?_map]
  rfl

/-! M17: own operators -/
section
open PySem.W PySem.Calls
theorem own_bin {prog : Program} {w : World} {A : Around} {E : Value → Shared → Prop} {K : PySem.W.Frag} {s : Shared} {x : Addr} {ox : Obj} {C f : Addr} {od : Option Obj} {op : Operator} {b : Value} {Q : Value → Shared → Prop} {cd : ClassData} {rest : List Value} (Y : K.In s.heap) (I : PySem.W.InstAt s.heap x ox C od) (hb : Looks (model prog w) s.heap (typeOf b) (.ref C)) (hcd : clsIn K C = some cd) (hm : cd.mro = .ref C :: rest)
    (hs : findIn K (.ref C) (PySem.dunder op.info.2) = some (some (.ref f))) (hf : isFn K (.ref f) = true)
    (h : wpAny (model prog w) A (PySem.call (.ref f) [.ref x, b]) (fun v s' => v ≠ .notImplemented ∧ Q v s') E s) : wpAny (model prog w) A (binaryOp op (.ref x) b) Q E s := by
  have fl := fills_K (M := model prog w) Y hcd hm hs
  unfold binaryOp binaryOp1 tryMethod
  refine wpAny_holding (wpAny_bind (wpAny_bind (I.type.here (wpAny_bind (hb.here (wpAny_bind (fl.here ?_)))))))
  rw [if_pos (beq_self_eq_true _)]
  refine wpAny_bind (wpAny_pure ?_)
  simp only [Bool.and_false, Bool.false_eq_true, if_false, Bool.false_and]
  refine wpAny_bind (wpAny_pure ?_)
  simp only [Bool.false_eq_true, if_false]
  refine wpAny_bind (wpAny_bind (special_fn Y I hs (beq_iff_eq.mp hf) (wpAny_mono h (fun v s' hv => ?_) fun _ _ e => e)))
  cases v <;> first | exact absurd rfl hv.1 | exact wpAny_pure (wpAny_pure (wpAny_pure hv.2))
end
section
variable {X : Cx} {CX : CXT} {k : Nat} {f C : Addr} {fd : FuncData} {ps : List Str} {sp : Sp} {E : L2.St → XK} {a b : Expr} {ta tb : TE} {pos : Pos}
/-- a op b by an own method of the class of both -/
def tOwn (C : Addr) (sp : Sp) (E : L2.St → XK) (ta tb : TE) : TE := fun σ H Q => ta σ H fun x H1 => tb σ H1 fun y H2 => ∃ p q dx dy fs gs, x = .ref p ∧ y = .ref q ∧ H2 p = some (.ins C dx fs) ∧ H2 q = some (.ins C dy gs) ∧ sp [.ref p, .ref q] H2 Q (E σ)
theorem run_own {op : Operator} {pins : List (Addr × Obj)} {σ : L2.St} {H : Hp} {s : Shared} {Q : VK} {p q dx dy : Addr} {fs gs : List (Str × V)} (hc : PySem.W.selfFirst X.K C = true) (hm : Meth X.K C (PySem.dunder op.info.2) f) (F : FnOk X.prog X.w X.K X.mg X.base CX k f fd ps sp) (hr : Room k X.A) (hb : Binds X.K fd ps []) (hx : PassesAt CX X σ (E σ))
    (I : Inv X pins σ H s) (hp : H p = some (.ins C dx fs)) (hq : H q = some (.ins C dy gs)) (h : sp [.ref p, .ref q] H Q (E σ)) : wpAny (model X.prog X.w) X.A (binaryOp op (.ref p) (.ref q)) (EP X pins σ Q) X.xe s := by
  obtain ⟨mA, O, _⟩ := ins_get I.hok hp
  obtain ⟨mB, O2, _⟩ := ins_get I.hok hq
  obtain ⟨od, J, _⟩ := O.look
  obtain ⟨od2, J2, _⟩ := O2.look
  obtain ⟨cd, hcd, hm2⟩ := PySem.W.any_some hc
  obtain ⟨rest, hm3⟩ : ∃ rest, cd.mro = .ref C :: rest := by
    cases q : cd.mro with
    | nil => rw [q] at hm2; cases hm2
    | cons a r => rw [q, List.head?_cons] at hm2; exact ⟨r, by rw [Option.some.inj (beq_iff_eq.mp hm2)]⟩
  refine own_bin I.kIn J J2.type hcd hm3 hm.at_ hm.fn (wpAny_mono (run_fnSD (us := [.ref p, .ref q]) (vs := [.ref p, .ref q]) (dvs := []) F hr hb .nil hx I (.cons rfl (.cons rfl .nil)) (by rw [List.append_nil]; exact h)) (fun v s' hv => ⟨?_, hv⟩) fun _ _ e => e)
  rintro rfl
  obtain ⟨x, H', I', r, _⟩ := hv
  cases x <;> first | (obtain ⟨_, r⟩ := r; cases r) | cases r
theorem pe_own {op : Operator} (ha : PE X a ta) (hb' : PE X b tb) (hc : PySem.W.selfFirst X.K C = true) (hm : Meth X.K C (PySem.dunder op.info.2) f) (F : FnOk X.prog X.w X.K X.mg X.base CX k f fd ps sp) (hr : Room k X.A) (hb : Binds X.K fd ps []) (hx : ∀ σ, PassesAt CX X σ (E σ)) : PE X (.BinOp a op b pos) (tOwn C sp E ta tb) := by
  refine ⟨fun pins s σ H Q I h => ?_⟩
  refine wpAny_BinOp (binT ha hb' I h fun v u s2 x y H2 I2 rx ry z => ?_)
  obtain ⟨p, q, dx, dy, fs, gs, rfl, rfl, hp, hq, z⟩ := z
  obtain rfl : v = Value.ref p := rx
  obtain rfl : u = Value.ref q := ry
  exact run_own hc hm F hr hb (hx σ) I2 hp hq z
end
section
variable {G : Ga} {W : L2.WX} {X : Cx}
/-- a op b by an own method, both of class c -/
def mOwn (c : String) (g : MF) (a b : ME) : ME := fun ρ st => (a ρ st).bind fun x st => (b ρ st).bind fun y st => match objOf x st, objOf y st with
  | some (c1, _), some (c2, _) => if c1 = c ∧ c2 = c then g [x, y] st else .bad
  | _, _ => .bad
theorem sim_own {f g : MF} {ta tb : TE} {ma mb : ME} {c : String} (hg : (∀ ds st, g ds st = f ds st) ∨ (∀ ds st, g ds st = pureF f ds st)) (sa : SimE G W ta ma) (sb : SimE G W tb mb) : SimE G W (tOwn (G.ca c) (spM G f) (WE W) ta tb) (mOwn c g ma mb) := by
  intro σ ρ H F ad st Q R S h
  refine simE_bind sa R S h fun x v st1 H1 F1 ad1 _ R1 S1 rv h1 => ?_
  refine simE_bind sb R1 S1 h1 fun y u st2 H2 F2 ad2 e2 R2 S2 ru h2 => ?_
  have rv2 := rv.ext e2
  cases z1 : objOf x st2 with
  | none => simp only [z1] at h2; exact h2.elim
  | some p1 => cases z2 : objOf y st2 with
    | none => simp only [z1, z2] at h2; exact h2.elim
    | some p2 =>
      obtain ⟨c1, fs⟩ := p1
      obtain ⟨c2, gs⟩ := p2
      simp only [z1, z2] at h2
      split at h2
      · rename_i hc
        obtain ⟨rfl, rfl⟩ := hc
        obtain ⟨p, dx, vfs, rfl, _, hp, _⟩ := objOf_ok S2 rv2 z1
        obtain ⟨q, dy, wfs, rfl, _, hq, _⟩ := objOf_ok S2 ru z2
        refine ⟨p, q, dx, dy, vfs, wfs, rfl, rfl, hp, hq, ?_⟩
        rcases hg with hg | hg
        · rw [hg] at h2
          exact ⟨F2, ad2, st2, _, S2, .cons rv2 (.cons ru .nil), h2⟩
        · rw [hg] at h2
          exact spM_pure S2 (.cons rv2 (.cons ru .nil)) h2
      · exact h2.elim
theorem ck_own {k : Nat} {fa : Addr} {ps : List Str} {f : MF} {c : String} {a b : Expr} {pos : Pos} {op : Operator} {ma mb : ME} (g : MF) (hK : X.K = G.K) (ha : DE G W X a ma) (hb : DE G W X b mb) (hs : PySem.W.selfFirst G.K (G.ca c) = true) (hm : Meth G.K (G.ca c) (PySem.dunder op.info.2) fa) (F : OkB X.prog X.w X.K X.mg X.base k fa ps [] (spM G f)) (hr : Room k X.A) (tk : Takes X W)
    (hg : g = f ∨ g = pureF f) : DE G W X (.BinOp a op b pos) (mOwn c g ma mb) := by
  obtain ⟨ta, pa, sa⟩ := ha
  obtain ⟨tb, pb, sb⟩ := hb
  obtain ⟨fd, ds, F, hv, hb, hk⟩ := F
  cases hv
  exact ⟨_, pe_own pa pb (by rw [hK]; exact hs) (by rw [hK]; exact hm) F hr hb (passAt tk), sim_own (hg.elim (fun e => .inl fun ds st => by rw [e]) fun e => .inr fun ds st => by rw [e]) sa sb⟩
end
/-! unary - by an own method -/
section
variable {G : Ga} {W : L2.WX} {X : Cx} {CX : CXT} {k : Nat} {f C : Addr} {fd : FuncData} {ps : List Str} {sp : Sp} {E : L2.St → XK} {a : Expr} {ta : TE} {pos : Pos}
def tOwn1 (C : Addr) (sp : Sp) (E : L2.St → XK) (ta : TE) : TE := fun σ H Q => ta σ H fun x H1 => ∃ p dx fs, x = .ref p ∧ H1 p = some (.ins C dx fs) ∧ sp [.ref p] H1 Q (E σ)
theorem pe_ownNeg (ha : PE X a ta) (hm : Meth X.K C "__neg__" f) (F : FnOk X.prog X.w X.K X.mg X.base CX k f fd ps sp) (hr : Room k X.A) (hb : Binds X.K fd ps []) (hx : ∀ σ, PassesAt CX X σ (E σ)) : PE X (.UnaryOp .USub a pos) (tOwn1 C sp E ta) := by
  refine ⟨fun pins s σ H Q I h => ?_⟩
  refine PyProof.Rows.UnaryOp_ (thn (ha.run pins s σ H _ I h) fun v s1 ⟨x, H1, I1, r1, q1⟩ => ?_)
  obtain ⟨p, dx, fs, rfl, hp, z⟩ := q1
  obtain rfl : v = Value.ref p := r1
  obtain ⟨mA, O, _⟩ := ins_get I1.hok hp
  obtain ⟨od, J, _⟩ := O.look
  have run := run_fnSD (us := [.ref p]) (vs := [.ref p]) (dvs := []) F hr hb .nil (hx σ) I1 (.cons rfl .nil) (by rw [List.append_nil]; exact z)
  unfold unaryOp
  exact PySem.wpAny_holding (PySem.wpAny_bind (PySem.W.special_fn I1.kIn J hm.at_ (beq_iff_eq.mp hm.fn) (wpAny_mono run (fun _ _ z => wpAny_pure z) fun _ _ z => z)))
def mOwn1 (c : String) (g : MF) (a : ME) : ME := fun ρ st => (a ρ st).bind fun x st => match objOf x st with
  | some (c1, _) => if c1 = c then g [x] st else .bad
  | _ => .bad
theorem sim_own1 {f g : MF} {ta : TE} {ma : ME} {c : String} (hg : (∀ ds st, g ds st = f ds st) ∨ (∀ ds st, g ds st = pureF f ds st)) (sa : SimE G W ta ma) : SimE G W (tOwn1 (G.ca c) (spM G f) (WE W) ta) (mOwn1 c g ma) := by
  intro σ ρ H F ad st Q R S h
  refine simE_bind sa R S h fun x v st1 H1 F1 ad1 _ R1 S1 rv h1 => ?_
  cases z1 : objOf x st1 with
  | none => simp only [z1] at h1; exact h1.elim
  | some p1 =>
    obtain ⟨c1, fs⟩ := p1
    simp only [z1] at h1
    split at h1
    · rename_i hc
      subst hc
      obtain ⟨p, dx, vfs, rfl, _, hp, _⟩ := objOf_ok S1 rv z1
      refine ⟨p, dx, vfs, rfl, hp, ?_⟩
      rcases hg with hg | hg
      · rw [hg] at h1
        exact ⟨F1, ad1, st1, _, S1, .cons rv .nil, h1⟩
      · rw [hg] at h1
        exact spM_pure S1 (.cons rv .nil) h1
    · exact h1.elim
theorem ck_ownNeg {k : Nat} {fa : Addr} {ps : List Str} {f : MF} {c : String} {a : Expr} {pos : Pos} {ma : ME} (g : MF) (hK : X.K = G.K) (ha : DE G W X a ma) (hm : Meth G.K (G.ca c) "__neg__" fa) (F : OkB X.prog X.w X.K X.mg X.base k fa ps [] (spM G f)) (hr : Room k X.A) (tk : Takes X W)
    (hg : g = f ∨ g = pureF f) : DE G W X (.UnaryOp .USub a pos) (mOwn1 c g ma) := by
  obtain ⟨ta, pa, sa⟩ := ha
  obtain ⟨fd, ds, F, hv, hb, hk⟩ := F
  cases hv
  exact ⟨_, pe_ownNeg pa (by rw [hK]; exact hm) F hr hb (passAt tk), sim_own1 (hg.elim (fun e => .inl fun ds st => by rw [e]) fun e => .inr fun ds st => by rw [e]) sa⟩
end

/-! M18: own errors over any built-in error class, fields stored by the own __init__ -/
section
open PySem.W PySem.Calls PyProof.Rows PySem.HandSPX Builtin Builtin.ObjectAttr
/-- a built-in error class -/
structure XB (B newId initId : String) (tl : List Value) : Prop where
  fb : ExcBaseFacts B newId initId tl
  sf : StoreFacts B tl "object.__setattr__" "object"
  ty : PySem.typeOf (.type B) = pure (.type "type")
  bt : bootBuiltins (Str.ofString B) = some (.type B)
  sb : Manifest.isStub B = false
  nn : Str.ofString B ≠ "__name__"
  nd : (Str.ofString B == ("__debug__" : Str)) = false
structure OxC (K : PySem.W.Frag) (C : Addr) (newId : String) (tl : List Value) : Prop where
  cls : ∃ nm q N bs sn sub ab col dd k0 k1 k2 k3 k5, K.lookup C = some (excClassObj nm q C N bs tl true sn sub ab col dd k0 k1 k2 k3 k5 newId)
  ov : excOver K C tl = true
  sa : findIn K (.ref C) "__setattr__" = some (some (.builtin "object.__setattr__"))
  exC : subIn K (.ref C) (.type "BaseException") = some true
  tyC : typeIn K (.ref C) = some (.type "type")
  kC : keepIn K (.ref C) = true
section
variable {prog : Program} {w : World} {A : Around} {R : Result → Shared → Prop} {hp : Heap} {g : Array GenState} {d : Drawn} {t : Nat} {os : OsState} {K : PySem.W.Frag} {B newId initId : String} {tl : List Value}
/-- the first field -/
theorem ox_set0 {name : Str} {tk : Tok} {v : Value} {x C : Addr} {fv : Array Value} (b : XB B newId initId tl) (Y : K.In hp) (T : OxC K C newId tl) (hx : hp.get? x = some { cls := .ref C, data := .fields fv }) (ha : findIn K (.ref C) name = some none)
    (q : ∀ h' tk' dx, (∀ c o, c ≠ x → hp.get? c = some o → h'.get? c = some o) → hp.objs.size ≤ dx → dx ≠ x → h'.get? x = some { cls := .ref C, dict := some dx, data := .fields fv } → h'.Ns1 dx (fun y => if y = name then some v else none) → R (.ok (.ret .none)) ⟨h', g, d, tk', os⟩) :
    codeAny (model prog w) A (.call (.builtin "object.__setattr__") ⟨[.ref x, .str name tk, v], []⟩) R ⟨hp, g, d, t, os⟩ := by
  obtain ⟨nm, qn, N, bs, sn, sub, ab, col, dd, k0, k1, k2, k3, k5, hC⟩ := T.cls
  have ne0 : x ≠ hp.objs.size := Nat.ne_of_lt (Heap.lt_size hx)
  have lc : clsIn K C = some { name := nm, bases := bs, mro := .ref C :: tl, ns := N, qualname := qn, hasDict := true, slotNames := sn, subclasses := sub, abstract := ab, collection := col, hasDel := false } := by unfold clsIn; rw [hC] <;> rfl
  have lk0 : Looks (model prog w) hp (classData C) _ := looks_clsIn Y lc
  refine osa_openX (r := none) (od := none) b.sf (s := ⟨hp, g, d, t, os⟩) Y ⟨hx, rfl, rfl, trivial⟩ T.ov (by unfold takerIn; rw [ha]; rfl) fun onT => ?_
  show wpAny _ _ (storeInOwnDict (.ref x) (.ref C) (.str name tk) name v onT) _ _ _
  unfold storeInOwnDict ownDictForStores
  repeat (first | with_reducible refine store_in_new ?_ ?_ | with_reducible refine wpAny_loadPart_at hx ?_ | with_reducible refine lk0.at ?_ | wp_step)
  · exact ⟨_, #[], _, (Heap.get?_update_ne _ _ _ _ ne0.symm).trans (Heap.get?_push_at rfl rfl), rfl, fun u hu => absurd hu (by simp), fun _ => rfl⟩
  · intro h' tk' n s
    refine q h' tk' hp.objs.size (fun c o hc ho => ?_) (Nat.le_refl _) ne0.symm ?_ n
    · exact (s.2 c (Nat.ne_of_lt (Heap.lt_size ho))).trans ((Heap.get?_update_ne _ _ _ _ hc).trans (Heap.get?_push_of_some _ ho))
    · exact (s.2 x ne0).trans (Heap.get?_update_self _ (Heap.get?_push_of_some _ hx) rfl)
/-- a further one -/
theorem ox_set1 {name : Str} {tk : Tok} {v : Value} {x C dx : Addr} {fv : Array Value} {m0 : Str → Option Value} {nl : List Str} (b : XB B newId initId tl) (Y : K.In hp) (T : OxC K C newId tl) (hx : hp.get? x = some { cls := .ref C, dict := some dx, data := .fields fv }) (hns : hp.Ns1 dx m0) (hw : Within m0 nl) (hz : nl.length ≤ 1000)
    (ha : findIn K (.ref C) name = some none)
    (q : ∀ h' tk', (∀ c o, c ≠ dx → hp.get? c = some o → h'.get? c = some o) → h'.Ns1 dx (fun y => if y = name then some v else m0 y) → R (.ok (.ret .none)) ⟨h', g, d, tk', os⟩) :
    codeAny (model prog w) A (.call (.builtin "object.__setattr__") ⟨[.ref x, .str name tk, v], []⟩) R ⟨hp, g, d, t, os⟩ := by
  obtain ⟨nm, qn, N, bs, sn, sub, ab, col, dd, k0, k1, k2, k3, k5, hC⟩ := T.cls
  obtain ⟨oD, esD, epD, hoD, _, _⟩ := hns.count hw
  have lc : clsIn K C = some { name := nm, bases := bs, mro := .ref C :: tl, ns := N, qualname := qn, hasDict := true, slotNames := sn, subclasses := sub, abstract := ab, collection := col, hasDel := false } := by unfold clsIn; rw [hC] <;> rfl
  have lk0 : Looks (model prog w) hp (classData C) _ := looks_clsIn Y lc
  refine osa_openX (r := none) (od := some oD) b.sf (s := ⟨hp, g, d, t, os⟩) Y ⟨hx, rfl, rfl, hoD⟩ T.ov (by unfold takerIn; rw [ha]; rfl) fun onT => ?_
  show wpAny _ _ (storeInOwnDict (.ref x) (.ref C) (.str name tk) name v onT) _ _ _
  unfold storeInOwnDict ownDictForStores
  repeat (first | with_reducible refine PySem.OEX.store_in_old hns hw hz ?_ | with_reducible refine wpAny_loadPart_at hx ?_ | with_reducible refine lk0.at ?_ | wp_step)
  intro h' tk' n s
  exact q h' tk' (fun c o hc ho => (s.2 c hc).trans ho) n
end
end
section
open PySem.W PySem.HandSPX
variable {X : Cx} {pins : List (Addr × Obj)} {σ : L2.St} {H : Hp} {s : Shared} {a C dx : Addr} {f : Str} {y : V} {u : Value} {fs : List (Str × V)} {E : Value → Shared → Prop} {A : Around} {B newId initId : String} {tl : List Value}
/-- the heap behind the first store -/
theorem ox_inv {h' : Heap} {tk : Nat} (I : Inv X pins σ H s) (e : H a = some (exo a C none)) (ry : RelV y u) (k : ∀ b o, b ≠ a → s.heap.get? b = some o → h'.get? b = some o) (dn : s.heap.objs.size ≤ dx)
    {t1 : Addr} (hx : h'.get? a = some ({ cls := .ref C, dict := some dx, data := .fields #[.ref t1, .none, .none, .none, .bool false, .none] } : Obj)) (hn : h'.Ns1 dx (fun z => if z = f then some u else none)) :
    Inv X pins σ (upd (upd H dx (exd dx [(f, y)])) a (exo a C (some dx))) { s with heap := h', toks := tk } := by
  have h0 : H dx = none := I.hok.fresh dn
  have nd : ∀ {b : Addr} {o : Obj}, s.heap.get? b = some o → b ≠ dx := fun {b o} q => Nat.ne_of_lt (Nat.lt_of_lt_of_le (Heap.lt_size q) dn)
  have na : ∀ {b : Addr}, H b = none → b ≠ a := fun {b} n z => by rw [z, e] at n; cases n
  have same : ∀ b o, H b = some o → o ≠ exo a C none → upd (upd H dx (exd dx [(f, y)])) a (exo a C (some dx)) b = some o := fun b o q ne => by
    rw [upd_ne (fun z => ne (by rw [z, e] at q; exact (Option.some.inj q).symm)), upd_ne (ne_of_none q h0)]
    exact q
  refine I.un (t' := tk) ⟨fun b o q n _ _ => k b o (na n) q, fun b o q n _ _ => ⟨o.slots, k b o (na n) q⟩, fun b o q n _ => ?_, fun b o q _ => ?_, fun b xs q => same b _ q exo_tup.symm, fun b o v q => same b _ q exo_frz.symm, fun b ps q => ⟨#[], by rw [same b _ q exo_tbl.symm]; simp⟩⟩ fun b o q => ?_
  · rw [upd_ne (na n), upd_ne (nd q)]; exact n
  · by_cases hb : b = a
    · exact ⟨_, by rw [hb]; exact hx⟩
    · exact ⟨o, k b o hb q⟩
  · by_cases hb : b = a
    · subst hb
      rw [upd_same] at q
      cases q
      exact exo_ok hx
    · rw [upd_ne hb] at q
      by_cases hd : b = dx
      · subst hd
        rw [upd_same] at q
        cases q
        exact exd_ok hn (relO_put (fs := []) ry fun g => True.intro)
      · rw [upd_ne hd] at q
        refine (I.hok b o q).stay (fun c v hc z => k c v ?_ z) (fun c hc => same c _ hc exo_own.symm) fun c xs hc => same c _ hc exo_tup.symm
        rcases hc with hc | hc
        · rw [hc]; exact hb
        · exact at_ne e hc exo_own
theorem ox_store0 {Q : Unit → Shared → Prop} (b : XB B newId initId tl) (T : OxC X.K C newId tl) (I : Inv X pins σ H s) (e : H a = some (exo a C none)) (hno : findIn X.K (.ref C) f = some none) (ry : RelV y u)
    (h : ∀ dx s', H dx = none → dx ≠ a → Inv X pins σ (upd (upd H dx (exd dx [(f, y)])) a (exo a C (some dx))) s' → Q () s') : wpAny (model X.prog X.w) A (setAttr (.ref a) f u) Q E s := by
  obtain ⟨t1, ho⟩ := exo_at I.hok e
  obtain ⟨hp, g, d, t, os⟩ := s
  refine set_plain I.kIn (ox := { cls := .ref C, dict := none, data := .fields #[.ref t1, .none, .none, .none, .bool false, .none] }) (od := none) ⟨ho, rfl, rfl, trivial⟩ T.sa ?_
  exact ox_set0 b I.kIn T ho hno fun h' tk' dx k dn dne hx hn => h dx _ (I.hok.fresh dn) dne (ox_inv (tk := tk') I e ry k dn hx hn)
theorem ox_store1 {Q : Unit → Shared → Prop} (b : XB B newId initId tl) (T : OxC X.K C newId tl) (I : Inv X pins σ H s) (e : H a = some (exo a C (some dx))) (ed : H dx = some (exd dx fs)) (hl : fs.length ≤ 900) (hno : findIn X.K (.ref C) f = some none) (ry : RelV y u)
    (h : ∀ s', Inv X pins σ (upd H dx (exd dx ((f, y) :: fs))) s' → Q () s') : wpAny (model X.prog X.w) A (setAttr (.ref a) f u) Q E s := by
  obtain ⟨t1, ho⟩ := exo_at I.hok e
  obtain ⟨mA, hns, rel⟩ := exd_at I.hok ed
  have hw := within_of rel
  obtain ⟨hp, g, d, t, os⟩ := s
  obtain ⟨oD, _, _, hoD, _, _⟩ := hns.count hw
  refine set_plain I.kIn (ox := { cls := .ref C, dict := some dx, data := .fields #[.ref t1, .none, .none, .none, .bool false, .none] }) (od := some oD) ⟨ho, rfl, rfl, hoD⟩ T.sa ?_
  refine ox_set1 b I.kIn T ho hns hw (by rw [List.length_map]; omega) hno fun h' tk' k hn => ?_
  obtain ⟨o', es', ep', e', r'⟩ := id hn
  exact h _ (I.write (t' := tk') (x := dx) (e := dx) (o := exd dx ((f, y) :: fs)) (by rw [ed]; exact True.intro) (.inl rfl) k ⟨o', e'⟩ (exd_ok hn (relO_put ry rel)))
theorem ox_init {us : List Value} {Q : Value → Shared → Prop} (b : XB B newId initId tl) (T : OxC X.K C newId tl) (I : Inv X pins σ H s) (e : H a = some (exo a C none)) (hl : us.length ≤ sizeLine) (h : ∀ s', Inv X pins σ H s' → Q .none s') :
    wpAny (model X.prog X.w) A (call (.builtin initId) (.ref a :: us)) Q E s := by
  obtain ⟨nm, q, N, bs, sn, sub, ab, col, dd, k0, k1, k2, k3, k5, hC⟩ := T.cls
  obtain ⟨t1, ho⟩ := exo_at I.hok e
  obtain ⟨hp, g, d, t, os⟩ := s
  refine wpAny_call (init_base b.fb (fun _ => rfl) (I.kIn _ _ hC) ho hl fun h' t2 k hx => ?_)
  have J := I.write (t' := t) (x := a) (e := a) (o := exo a C none) (by rw [e]; exact True.intro) (.inl rfl) k ⟨_, hx⟩ (exo_ok hx)
  have eu : upd H a (exo a C none) = H := funext fun b => by
    by_cases hb : b = a
    · rw [hb, upd_same, e]
    · rw [upd_ne hb]
  rw [eu] at J
  exact h _ J
end
section
variable {X : Cx} {o e : Expr} {es : List Expr} {to te : TE} {ta : TA} {f : Str} {p p' p1 p2 pos : Pos} {B newId initId : String} {tl : List Value}
/-- B.__init__(self, ..) -/
def tXI (newId : String) (tl : List Value) (K : PySem.W.Frag) (ta : TA) : TE := fun σ H Q => ta σ H fun vs H1 => ∃ (a C : Addr) (ws : List V), vs = .ref a :: ws ∧ ws.length ≤ 1000 ∧ OxC K C newId tl ∧ H1 a = some (exo a C none) ∧ Q .non H1
/-- self.f = e -/
def tXs (newId : String) (tl : List Value) (K : PySem.W.Frag) (f : Str) (to te : TE) : TS := fun D σ H => te σ H fun y H1 => to σ H1 fun x H2 => ∃ a C : Addr, x = .ref a ∧ OxC K C newId tl ∧ PySem.W.findIn K (.ref C) f = some none ∧
  ((H2 a = some (exo a C none) ∧ ∀ dx, H2 dx = none → dx ≠ a → D.nx σ (upd (upd H2 dx (exd dx [(f, y)])) a (exo a C (some dx)))) ∨
    ∃ (dx : Addr) (fs : List (Str × V)), H2 a = some (exo a C (some dx)) ∧ H2 dx = some (exd dx fs) ∧ fs.length ≤ 900 ∧ D.nx σ (upd H2 dx (exd dx ((f, y) :: fs))))
theorem pe_xinit {pl : Sem Bool} (b : XB B newId initId tl) (hg : Gl X (Str.ofString B)) (hm : X.mg (Str.ofString B) = none) (vV : PySem.W.findCls X.K (.type B) (.type "type") "__init__" = some (.val (.builtin initId))) (ha : PA X (e :: es) ta)
    (hc : eval (.Call (.Attribute (.Name (Str.ofString B) p1) "__init__" p2) (e :: es) [] pos) X.env = (do
      let ov ← eval (.Name (Str.ofString B) p1) X.env
      standAt p2.atName
      let (f, first) ← holding [ov] (getMethod ov "__init__" pl)
      callWith pos f first (backTo pos (starEach (e :: es) X.env)) (backToKw pos (keywordEach [] X.env))) := by rfl)
    (he : starEach (e :: es) X.env = (false, eval e X.env) :: starEach es X.env := by rfl) (hpl : (backTo pos (starEach es X.env)).any (·.1) = false := by rfl) (hbi : PySem.W.handedIn (.builtin initId) = true := by decide +kernel) :
    PE X (.Call (.Attribute (.Name (Str.ofString B) p1) "__init__" p2) (e :: es) [] pos) (tXI newId tl X.K ta) := by
  refine ⟨fun pins s σ H Q I h => ?_⟩
  refine PySem.W.methodCall_KW (ld_blt I hg hm b.bt ?_ b.nn b.nd) hc
  obtain ⟨m, fr⟩ := I.fr
  refine PySem.W.method_type fr I.ok.mod.kin b.ty b.sb vV hbi ?_
  show wpAny _ _ (callWith pos (Value.builtin initId) [] (backTo pos (starEach (e :: es) X.env)) []) _ _ _
  refine PyProof.Rows.callWith_method1 (thn (ha.run pos pins _ σ H _ (I.tok _) h) fun us s1 ⟨vs, H1, I1, r1, a, C, ws, ev, hl, T, ea, q⟩ => ?_) he hpl
  subst ev
  cases r1 with
  | @cons _ u0 _ ur ra rw' =>
    obtain rfl : u0 = Value.ref a := ra
    refine ox_init b T I1 ea ?_ fun s' J => ⟨.non, H1, J, rfl, q⟩
    rw [← Paired.length rw', sizeLine_eq]
    omega
theorem ps_xst (b : XB B newId initId tl) (ho : PE X o to) (he : PE X e te) (hs : swapsWith e (some (.Attribute o f p')) pos.line X.env = pure false := by rfl) : PS X (.Assign [.Attribute o f p'] e pos) (tXs newId tl X.K f to te) := by
  refine ⟨fun pins s σ H D I h => ?_⟩
  refine plainObj_wpAny_Assign_Attribute (thn (he.run pins s σ H _ I h) fun v s1 ⟨y, H1, I1, r1, q1⟩ => thn (ho.run pins s1 σ H1 _ I1 q1) fun u s2 ⟨x, H2, I2, r2, a, C, ex, T, hno, q⟩ => ?_) hs
  subst ex
  obtain rfl : u = Value.ref a := r2
  rcases q with ⟨ea, q⟩ | ⟨dx, fs, ea, ed, hl, q⟩
  · exact ox_store0 b T I2 ea hno r1 fun dx s' n ne J => ⟨σ, _, J, q dx n ne⟩
  · exact ox_store1 b T I2 ea ed hl hno r1 fun s' J => ⟨σ, _, J, q⟩
end
section
open PySem.W PySem.HandSPX PyProof.Rows PySem.Spec
variable {X : Cx} {B newId initId : String} {tl : List Value}
/-- the exception is let go; it has no dict -/
theorem mk_endN {pins : List (Addr × Obj)} {σ : L2.St} {H1 H2 : Hp} {Q : XK} {hp hp2 h2 : Heap} {g1 g2 : Array GenState} {d1 d2 : Drawn} {t1 t2 : Nat} {os1 os2 : OsState} {a C : Addr} (T : Raises X (.ref C)) (I1 : Inv X pins σ H1 ⟨hp, g1, d1, t1, os1⟩)
    (ha : hp.objs.size ≤ a) (k : ∀ b o, hp.get? b = some o → hp2.get? b = some o) (un : Un (frs X.stack) [] (upd H1 a (exo a C none)) H2 hp2 h2) (hok : HOk X.prog X.w H2 h2) (ho : os2 = os1) (hb : AllBare g2)
    (ea : H2 a = some (exo a C none)) (q : Q (.ref C) none (del H2 a)) : MkP X pins σ Q (.ref a) ⟨h2, g2, d2, t2, os2⟩ := by
  obtain ⟨t0, hoe⟩ := exo_at hok ea
  have hn : H1 a = none := I1.hok.fresh ha
  obtain ⟨G, g1', g2'⟩ := restrict h2 fun b => decide (b ≠ a)
  have gk : ∀ b, b ≠ a → G.get? b = h2.get? b := fun b hb => g1' b (decide_eq_true hb)
  have nh : ∀ {b : Addr} {o : Obj}, hp.get? b = some o → b ≠ a := fun {b o} z => Nat.ne_of_lt (Nat.lt_of_lt_of_le (Heap.lt_size z) ha)
  have up : ∀ {b : Addr}, b ≠ a → upd H1 a (exo a C none) b = H1 b := fun {b} hb => upd_ne hb
  have U : Un (frs X.stack) [] H1 (del H2 a) hp G := by
    refine ⟨fun b o z n hf hx => ?_, fun b o z n hf hx => ?_, fun b o z n hx => ?_, fun b o z hx => ?_, fun b xs z => ?_, fun b o v z => ?_, fun b ps z => ?_⟩
    · rw [gk b (nh z)]; exact un.keep b o (k b o z) ((up (nh z)).trans n) hf hx
    · rw [gk b (nh z)]; exact un.slot b o (k b o z) ((up (nh z)).trans n) hf hx
    · rw [del_ne (nh z)]; exact un.free b o (k b o z) ((up (nh z)).trans n) hx
    · rw [gk b (nh z)]; exact un.there b o (k b o z) hx
    · rw [del_ne (ne_of_none z hn)]; exact un.tups b xs ((up (ne_of_none z hn)).trans z)
    · rw [del_ne (ne_of_none z hn)]; exact un.frzs b o v ((up (ne_of_none z hn)).trans z)
    · rw [del_ne (ne_of_none z hn)]; exact un.tbls b ps ((up (ne_of_none z hn)).trans z)
  have hok3 : HOk X.prog X.w (del H2 a) G := fun b o z => by
    have hba : b ≠ a := fun e => by rw [e, del_same] at z; cases z
    rw [del_ne hba] at z
    refine (hok b o z).stay (fun c v hc y => ?_) (fun c hc => by rw [del_ne (at_ne ea hc exo_own)]; exact hc) fun c xs hc => by rw [del_ne (at_ne ea hc exo_tup)]; exact hc
    rw [gk c (by
      rcases hc with hc | hc
      · rw [hc]; exact hba
      · exact at_ne ea hc exo_own)]
    exact y
  have J : Inv X pins σ (del H2 a) ⟨G, g2, d2, t2, os2⟩ := I1.call' (ch := []) ho U hok3 hb (fun b z => absurd z (by simp))
  refine ⟨a, _, _, ⟨G, g2, d2, t2, os2⟩, _, .ref C, none, rfl, J, fun b o z => ?_, g2' a (by simp), hoe, ⟨rfl, rfl⟩, rfl, rfl, del_same, rfl, hb, T, q⟩
  by_cases hba : b = a
  · rw [hba, g2' a (by simp)] at z; cases z
  · exact (gk b hba).symm.trans z
theorem ox_call {CX : CXT} {C fI : Addr} {k : Nat} {fd : FuncData} {ps : List Str} {sp : Sp} {pins : List (Addr × Obj)} {σ : L2.St} {H1 : Hp} {s1 : Shared} {us : List Value} {vs : List V} {Q : XK} {R : Addr → VK} (b : XB B newId initId tl) (T : OxC X.K C newId tl) (iC : findIn X.K (.ref C) "__init__" = some (some (.ref fI))) (tI : typeIn X.K (.ref fI) = some (.type "function"))
    (F1 : FnOk X.prog X.w X.K X.mg X.base CX k fI fd ps sp) (hr : Room (k + 1) X.A) (hb : Binds X.K fd ps []) (hx : Passes CX X (fun _ _ _ => False)) (I1 : Inv X pins σ H1 s1) (r1 : Vals vs us) (hz : vs.length ≤ 1000)
    (q1 : ∀ a, H1 a = none → sp (.ref a :: vs) (upd H1 a (exo a C none)) (R a) (fun _ _ _ => False))
    (fin : ∀ a v H2, H1 a = none → R a v H2 → v = .non ∧ ((∃ (d : Addr) (fs : List (Str × V)), H2 a = some (exo a C (some d)) ∧ H2 d = some (exd d fs) ∧ H1 d = none ∧ Q (.ref C) (some d) (upd (del H2 a) d (.xd fs))) ∨ (H2 a = some (exo a C none) ∧ Q (.ref C) none (del H2 a)))) :
    wpAny (model X.prog X.w) X.A (call (.ref C) us) (MkP X pins σ Q) X.xe s1 := by
  obtain ⟨nm, q, N, bs, sn, sub, ab, col, dd, k0, k1, k2, k3, k5, hC⟩ := T.cls
  obtain ⟨hp, g, dr, tk, os⟩ := s1
  have hsz : hp.objs.size ≤ hp.objs.size + 1 := Nat.le_succ _
  have hn : H1 (hp.objs.size + 1) = none := I1.hok.fresh hsz
  have hq := q1 (hp.objs.size + 1) hn
  have kk : ∀ b o, hp.get? b = some o → ((hp.push (kdv_tup us)).push (excO C hp.objs.size)).get? b = some o := fun b o e => Heap.get?_push_of_some _ (Heap.get?_push_of_some _ e)
  have hget : ((hp.push (kdv_tup us)).push (excO C hp.objs.size)).get? (hp.objs.size + 1) = some (excO C hp.objs.size) := by heap_get
  have I2 : Inv X pins σ (upd H1 (hp.objs.size + 1) (exo (hp.objs.size + 1) C none)) ⟨(hp.push (kdv_tup us)).push (excO C hp.objs.size), g, dr, tk, os⟩ :=
    I1.laid (t' := tk) (a := hp.objs.size + 1) (o := exo (hp.objs.size + 1) C none) (h' := (hp.push (kdv_tup us)).push (excO C hp.objs.size)) kk hsz (exo_ok hget)
  have r2 : Vals (V.ref (hp.objs.size + 1) :: vs) (Value.ref (hp.objs.size + 1) :: us) := .cons rfl r1
  have hl : (Value.ref (hp.objs.size + 1) :: us ++ []).length = ps.length := by
    have e := r2.length
    rw [F1.len _ _ _ _ hq] at e
    rw [List.append_nil]
    exact e.symm
  have hus : us.length ≤ sizeLine := by
    rw [← Paired.length r1, sizeLine_eq]
    omega
  have hb' := hb _ (Value.ref (hp.objs.size + 1) :: us) I2.kIn hl
  rw [List.append_nil] at hb'
  have run := F1.run _ X.stack _ _ ⟨Value.ref (hp.objs.size + 1) :: us, []⟩ (Value.ref (hp.objs.size + 1) :: us) _ _ (fun _ _ _ => False) (hr.make C us []) (I2.env0.make C us []) hb' r2 hq
  refine wpAny_call (call_own b.fb (fun _ => rfl) (I1.kIn _ _ hC) (looks_findIn I1.kIn iC) (fun self => bind_fn I1.kIn self tI) hus (codeAny_mono run fun r s' hq' => ?_))
  cases r with
  | error er => exact hx pins σ _ _ er s' I2 hq'
  | ok fl =>
    cases fl with
    | ret u =>
      obtain ⟨v, H2, os2, bare2, un2, hok2, rv, ev⟩ := hq'
      obtain ⟨ev, ev2⟩ := fin _ _ _ hn ev
      subst ev
      obtain ⟨h2, g2, d2, t2, os'⟩ := s'
      rcases ev2 with ⟨d, fs, ea, ed, hd1, q2⟩ | ⟨ea, q2⟩
      · exact ⟨rv, mk_end (raises_own T.exC T.tyC) I1 hsz kk un2 hok2 os2 bare2 ea ed hd1 q2⟩
      · exact ⟨rv, mk_endN (raises_own T.exC T.tyC) I1 hsz kk un2 hok2 os2 bare2 ea q2⟩
    | next => exact False.elim hq'
    | brk => exact False.elim hq'
    | cont => exact False.elim hq'
variable {x : Str} {C fI : Addr} {k : Nat} {fd : FuncData} {ps : List Str} {sp : Sp} {CX : CXT} {e : Expr} {es : List Expr} {ta : TA} {p pos : Pos}
theorem pmk_ox (b : XB B newId initId tl) (T : OxC X.K C newId tl) (iC : findIn X.K (.ref C) "__init__" = some (some (.ref fI))) (tI : typeIn X.K (.ref fI) = some (.type "function"))
    (F1 : FnOk X.prog X.w X.K X.mg X.base CX k fI fd ps sp) (hr : Room (k + 1) X.A) (hb : Binds X.K fd ps []) (hx : Passes CX X (fun _ _ _ => False)) (hg : Gl X x) (hm : X.mg x = some (.ref C)) (ha : PA X (e :: es) ta)
    (hdb : (x == ("__debug__" : Str)) = false := by decide) (he : starEach (e :: es) X.env = (false, eval e X.env) :: starEach es X.env := by rfl) (hpl : (backTo pos (starEach es X.env)).any (·.1) = false := by rfl) :
    PMk X (.Call (.Name x p) (e :: es) [] pos) (tMkO C sp [] ta) := by
  intro pins s σ H Q I h
  refine wpAny_Call_Name_kw (ld_glob I hg hm ?_ hdb)
  refine callWith_K (h₀ := X.base) I.ok.mod.kin T.kC (thn (ha.run pos pins s σ H _ I h) fun us s1 ⟨vs, H1, I1, r1, hz, q1⟩ => ⟨I1.kIn, ?_⟩) he hpl
  refine ox_call b T iC tI F1 hr hb hx I1 r1 hz (fun a ha => by have := q1 a ha; rw [List.append_nil] at this; exact this) fun a v H2 ha z => ?_
  obtain ⟨rfl, d, fs, h1, h2, h3, h4⟩ := z
  exact ⟨rfl, .inl ⟨d, fs, h1, h2, h3, h4⟩⟩
/-- raise C(), C's own __init__ stores nothing -/
def spExc0 (C : Addr) : Sp := fun vs H Q _ => ∃ a : Addr, vs = [.ref a] ∧ H a = some (exo a C none) ∧ Q .non H
def tMkN (C : Addr) : L2.St → Hp → XK → Prop := fun _ H Q => Q (.ref C) none H
theorem pmk_ox0 (b : XB B newId initId tl) (T : OxC X.K C newId tl) (iC : findIn X.K (.ref C) "__init__" = some (some (.ref fI))) (tI : typeIn X.K (.ref fI) = some (.type "function"))
    (F1 : FnOk X.prog X.w X.K X.mg X.base CX k fI fd ps (spExc0 C)) (hr : Room (k + 1) X.A) (hb : Binds X.K fd ps []) (hx : Passes CX X (fun _ _ _ => False)) (hg : Gl X x) (hm : X.mg x = some (.ref C))
    (hdb : (x == ("__debug__" : Str)) = false := by decide) : PMk X (.Call (.Name x p) [] [] pos) (tMkN C) := by
  intro pins s σ H Q I h
  refine wpAny_Call_Name_kw (ld_glob I hg hm ?_ hdb)
  refine callWith_K0 I.kIn T.kC ?_
  refine ox_call (vs := []) (R := fun a v H2 => v = .non ∧ H2 = upd H a (exo a C none)) b T iC tI F1 hr hb hx I .nil (by decide) (fun a ha => ⟨a, rfl, upd_same, rfl, rfl⟩) fun a v H2 ha z => ?_
  obtain ⟨rfl, rfl⟩ := z
  refine ⟨rfl, .inr ⟨upd_same, ?_⟩⟩
  have e : del (upd H a (exo a C none)) a = H := funext fun b => by
    by_cases hb : b = a
    · rw [hb, del_same, ha]
    · rw [del_ne hb, upd_ne hb]
  rw [e]
  exact h
end

/-! M19: operators by own methods, with what they raise -/
abbrev R3 := L2.St → V → V → Hp → VK → Prop
section
variable {X : Cx} {a b : Expr} {ta tb : TE} {pos : Pos}
def OpRS (X : Cx) (op : Value → Value → Sem Value) (r : R3) : Prop := ∀ (pins : List (Addr × Obj)) (s : Shared) (σ : L2.St) (H : Hp) (x y : V) (v u : Value) (Q : VK), Inv X pins σ H s → RelV x v → RelV y u → r σ x y H Q → wpAny (model X.prog X.w) X.A (op v u) (EP X pins σ Q) X.xe s
def tOpS (r : R3) (ta tb : TE) : TE := fun σ H Q => ta σ H fun x H1 => tb σ H1 fun y H2 => r σ x y H2 Q
theorem OpRS.of {op : Value → Value → Sem Value} {r : R2} (h : OpR X op r) : OpRS X op (fun _ => r) := fun pins s σ H x y v u Q I rx ry z => h pins s σ H x y v u Q I rx ry z
theorem OpRS.or {op : Value → Value → Sem Value} {r r' : R3} (h : OpRS X op r) (h' : OpRS X op r') : OpRS X op (fun σ x y H Q => r σ x y H Q ∨ r' σ x y H Q) := fun pins s σ H x y v u Q I rx ry z => z.elim (h pins s σ H x y v u Q I rx ry) (h' pins s σ H x y v u Q I rx ry)
theorem pe_opS {op : Operator} {r : R3} (ho : OpRS X (binaryOp op) r) (ha : PE X a ta) (hb : PE X b tb) : PE X (.BinOp a op b pos) (tOpS r ta tb) := by
  refine ⟨fun pins s σ H Q I h => ?_⟩
  exact wpAny_BinOp (binT ha hb I h fun v u s2 x y H2 I2 rx ry z => ho pins s2 σ H2 x y v u Q I2 rx ry z)
theorem pe_cmpS {op : CmpOp} {r : R3} (ho : OpRS X (compareOp op) r) (ha : PE X a ta) (hb : PE X b tb) (hm : behindInMarks op b = false) : PE X (.Compare a [op] [b] pos) (tOpS r ta tb) := by
  refine ⟨fun pins s σ H Q I h => ?_⟩
  exact wpAny_Compare1 (binT ha hb I h fun v u s2 x y H2 I2 rx ry z => ho pins s2 σ H2 x y v u Q I2 rx ry z) hm
theorem pt_cmpS {op : CmpOp} {r : R3} (ho : OpRS X (compareOp op) r) (ha : PE X a ta) (hb : PE X b tb) (hm : behindInMarks op b = false) : PT X (.Compare a [op] [b] pos) (tTest (tOpS r ta tb)) := by
  refine ⟨fun pins s σ H Q I h => ?_⟩
  refine wpAny_isTrue_Compare1 (thn (ha.run pins s σ H _ I h) fun v s1 ⟨x, H1, I1, r1, q1⟩ => thn (hb.run pins s1 σ H1 _ I1 q1) fun u s2 ⟨y, H2, I2, r2, q2⟩ => thn (ho pins s2 σ H2 x y v u _ I2 r1 r2 q2) fun c s3 ⟨z, H3, I3, r3, k, e, q3⟩ => ?_) hm
  subst e
  cases r3
  exact wpAny_truthy_bool ⟨H3, I3, q3⟩
end
section
variable {G : Ga} {W : L2.WX} {X : Cx}
def SimR3 (G : Ga) (W : L2.WX) (r : R3) (f : O2) : Prop := ∀ (σ : L2.St) (x y : V) (dx dy : Va) (H F : Hp) (ad : List Addr) (st : Sto) (Q : VK), RepV G F ad x dx → RepV G F ad y dy → SR G H F ad st → Po G (fun c d H' => W c d σ H') H F ad (QV G Q) (f dx dy st) → r σ x y H Q
theorem SimR3.of {r : R2} {f : O2} (h : SimR2 G r f) : SimR3 G W (fun _ => r) f := fun σ x y dx dy H F ad st Q rx ry S z => h _ x y dx dy H F ad st Q rx ry S z
theorem SimR3.or {r r' : R3} {f f' g : O2} (h : SimR3 G W r f) (h' : SimR3 G W r' f') (hg : ∀ x y st, g x y st = f x y st ∨ g x y st = f' x y st) : SimR3 G W (fun σ x y H Q => r σ x y H Q ∨ r' σ x y H Q) g := by
  intro σ x y dx dy H F ad st Q rx ry S z
  rcases hg dx dy st with e | e
  · rw [e] at z; exact .inl (h σ x y dx dy H F ad st Q rx ry S z)
  · rw [e] at z; exact .inr (h' σ x y dx dy H F ad st Q rx ry S z)
theorem sim_opS {r : R3} {f : O2} {ta tb : TE} {ma mb : ME} (hr : SimR3 G W r f) (ha : SimE G W ta ma) (hb : SimE G W tb mb) : SimE G W (tOpS r ta tb) (mBin f ma mb) := by
  intro σ ρ H F ad st Q R S h
  refine simE_bind ha R S h fun x v st1 H1 F1 ad1 _ R1 S1 rv h1 => ?_
  refine simE_bind hb R1 S1 h1 fun y u st2 H2 F2 ad2 e2 R2 S2 ru h2 => ?_
  exact hr σ v u x y H2 F2 ad2 st2 Q (rv.ext e2) ru S2 h2
theorem de_opS {op : Operator} {r : R3} {f : O2} {a b : Expr} {pos : Pos} {ma mb : ME} (ho : OpRS X (binaryOp op) r) (hr : SimR3 G W r f) (ha : DE G W X a ma) (hb : DE G W X b mb) : DE G W X (.BinOp a op b pos) (mBin f ma mb) := by
  obtain ⟨ta, pa, sa⟩ := ha
  obtain ⟨tb, pb, sb⟩ := hb
  exact ⟨_, pe_opS ho pa pb, sim_opS hr sa sb⟩
theorem de_cmpS {op : CmpOp} {r : R3} {f : O2} {a b : Expr} {pos : Pos} {ma mb : ME} (ho : OpRS X (compareOp op) r) (hr : SimR3 G W r f) (ha : DE G W X a ma) (hb : DE G W X b mb) (hm : behindInMarks op b = false) : DE G W X (.Compare a [op] [b] pos) (mBin f ma mb) := by
  obtain ⟨ta, pa, sa⟩ := ha
  obtain ⟨tb, pb, sb⟩ := hb
  exact ⟨_, pe_cmpS ho pa pb hm, sim_opS hr sa sb⟩
theorem dt_cmpS {op : CmpOp} {r : R3} {f : O2} {a b : Expr} {pos : Pos} {ma mb : ME} (ho : OpRS X (compareOp op) r) (hr : SimR3 G W r f) (ha : DE G W X a ma) (hb : DE G W X b mb) (hm : behindInMarks op b = false) : DT G W X (.Compare a [op] [b] pos) (mTst (mBin f ma mb)) := by
  obtain ⟨ta, pa, sa⟩ := ha
  obtain ⟨tb, pb, sb⟩ := hb
  exact ⟨_, pt_cmpS ho pa pb hm, sim_tst (sim_opS hr sa sb)⟩
end
/-! ### at the model's level -/
section
open PySem.W PySem.Calls PyProof.Rows
variable {prog : Program} {w : World} {A : Around} {E : Value → Shared → Prop} {s : Shared} {K : PySem.W.Frag} {x C f : Addr} {ox : Obj} {od : Option Obj} {b tb : Value}
theorem bound_blt {M : Model} {id : String} {name : Str} {args : List Value} {Q : Option Value → Shared → Prop} (Y : K.In s.heap) (I : PySem.W.InstAt s.heap x ox C od) (hs : findIn K (.ref C) name = some (some (.builtin id))) (hb : ∀ self, bindSpecial (.builtin id) self = pure (.builtin id, [self]))
    (h : wpAny M A (PySem.call (.builtin id) (.ref x :: args)) (fun v => Q (some v)) E s) : wpAny M A (callSpecialIfBound? (.ref x) name args) Q E s := by
  simp only [callSpecialIfBound?, bindSpecialIfBound?]
  refine wpAny_holding (wpAny_bind (wpAny_bind (wpAny_bind (I.type.here ((looks_findIn Y hs).here ?_)))))
  refine wpAny_bind (wpAny_askSetting (wpAny_ite ?_))
  have fin : wpAny M A (PySem.call (.builtin id) ([.ref x] ++ args) >>= fun v => pure (some v)) Q E s := wpAny_bind (wpAny_mono h (fun v s' z => wpAny_pure z) fun _ _ z => z)
  split
  · simp only [hb]; exact wpAny_bind (wpAny_pure (wpAny_pure (by exact fin)))
  · simp only [hb]; exact wpAny_tryCatch (wpAny_bind (wpAny_pure (wpAny_pure (by exact fin))))
/-- how a call ends -/
def Ends3 (Q : Value → Shared → Prop) (E : Value → Shared → Prop) : Result → Shared → Prop := fun r s' => match r with
  | .ok (.ret v) => Q v s'
  | .ok _ => False
  | .error e => E e s'
theorem slot_call {id n : String} {B : Builtin} {rest : List Value} {Q : Value → Shared → Prop} (hp : plainId id = true) (he : entryFor table id = some B) (hk : builtinKind id = some .slot) (hs : splitId id = some ("object", n)) (ha : argsOk id ⟨.ref x :: rest, []⟩) (Y : K.In s.heap) (I : PySem.W.InstAt s.heap x ox C od) (hm : mroIn K C (.type "object") = some true)
    (h : wpAny (model prog w) A.in1 (B ⟨.ref x :: rest, []⟩) (fun fin s' => ∃ v, fin = .done (.ret v) ∧ Q v s') E s) : wpAny (model prog w) A (PySem.call (.builtin id) (.ref x :: rest)) Q E s := by
  have sub : Looks (model prog w) s.heap (isInstance (.ref x) (.type "object")) true := I.type.andThen (looks_mroIn Y hm)
  have z : codeAny (model prog w) A (.call (.builtin id) ⟨.ref x :: rest, []⟩) (Ends3 Q E) s := by
    refine codeAny_call_builtin hp he ?_
    refine PySem.W.check_slot hk hs sub ha ?_
    refine wpAny_mono h (fun fin s' z => ?_) fun _ _ z => z
    obtain ⟨v, rfl, q⟩ := z
    exact q
  exact wpAny_call z
/-- != by the own == -/
theorem own_ne {Q : Value → Shared → Prop} (hu : A.units + 1 < cLine) (Y : K.In s.heap) (I : PySem.W.InstAt s.heap x ox C od) (hb : Looks (model prog w) s.heap (typeOf b) tb) (hn : notFirst K C tb = true) (hm : mroIn K C (.type "object") = some true)
    (h1 : findIn K (.ref C) "__ne__" = some (some (.builtin "object.__ne__"))) (h2 : findIn K (.ref C) "__eq__" = some (some (.ref f))) (hf : isFn K (.ref f) = true)
    (h : wpAny (model prog w) A.in1 (PySem.call (.ref f) [.ref x, b]) (fun v s' => ∃ c, v = .bool c ∧ Q (.bool (!c)) s') E s) : wpAny (model prog w) A (richCompare .NotEq (.ref x) b) Q E s := by
  have one : wpAny (model prog w) A (tryCompare (.ref x) "__ne__" b) (fun r s' => ∃ v, r = some v ∧ Q v s') E s := by
    unfold tryCompare
    refine wpAny_bind (bound_blt Y I h1 PySem.F.slot_enumerate_ne.bind (slot_call PySem.F.slot_enumerate_ne.plain PySem.F.cmpEntry_ne PySem.F.cmpKind_ne PySem.F.cmpSplit_ne (PySem.F.cmpArgs_ne _ _) Y I hm ?_))
    unfold Builtin.«object.__ne__»
    refine wpAny_bind (m := slotArgs "__ne__" 1 _) (wpAny_pure (wpAny_bind (wpAny_cRoomFor hu ?_)))
    refine wpAny_bind (ifBound_K Y I h2 hf (wpAny_mono h (fun v s' z => ?_) fun _ _ z => z))
    obtain ⟨c, rfl, q⟩ := z
    refine wpAny_bind (wpAny_truthy_bool (wpAny_pure ⟨_, rfl, ?_⟩))
    exact wpAny_pure ⟨_, rfl, q⟩
  unfold richCompare
  simp only [oneThing_ref]
  refine wpAny_holding (wpAny_bind (wpAny_cRoomFor (by omega) ?_))
  refine wpAny_bind (I.type.here (wpAny_bind (hb.here ?_)))
  split
  · rename_i q
    have e : subIn K tb (.ref C) = some false := by
      rcases Bool.or_eq_true_iff.mp hn with e | e
      · rw [beq_iff_eq.mp e] at q; simp at q
      · exact beq_iff_eq.mp e
    refine wpAny_bind ((looks_subIn Y e).here ?_)
    simp only [Bool.false_eq_true, if_false]
    refine wpAny_bind (wpAny_mono one (fun r s' z => ?_) fun _ _ z => z)
    obtain ⟨v, rfl, q⟩ := z
    exact wpAny_pure q
  · refine wpAny_bind (wpAny_pure ?_)
    simp only [Bool.false_eq_true, if_false]
    refine wpAny_bind (wpAny_mono one (fun r s' z => ?_) fun _ _ z => z)
    obtain ⟨v, rfl, q⟩ := z
    exact wpAny_pure q
theorem entry_objGt : entryFor table "object.__gt__" = some Builtin.«object.__gt__» := entryFor_of_tree (by kernel_rfl)
theorem args_objGt (a b : Value) : argsOk "object.__gt__" ⟨[a, b], []⟩ := by unfold argsOk; kernel_rfl
/-- x > y by y < x, where there is no own > -/
theorem own_gtR {y : Addr} {oy : Obj} {oe : Option Obj} {Q : Value → Shared → Prop} (hu : A.units + 1 < cLine) (Y : K.In s.heap) (I : PySem.W.InstAt s.heap x ox C od) (J : PySem.W.InstAt s.heap y oy C oe) (hm : mroIn K C (.type "object") = some true)
    (h1 : findIn K (.ref C) "__gt__" = some (some (.builtin "object.__gt__"))) (h2 : findIn K (.ref C) "__lt__" = some (some (.ref f))) (hf : isFn K (.ref f) = true)
    (h : wpAny (model prog w) A (PySem.call (.ref f) [.ref y, .ref x]) (fun v s' => v ≠ .notImplemented ∧ Q v s') E s) : wpAny (model prog w) A (richCompare .Gt (.ref x) (.ref y)) Q E s := by
  have two : wpAny (model prog w) A (tryCompare (.ref y) "__lt__" (.ref x)) (fun r s' => ∃ v, r = some v ∧ Q v s') E s := by
    unfold tryCompare
    refine wpAny_bind (ifBound_K Y J h2 hf (wpAny_mono h (fun v s' hv => ?_) fun _ _ e => e))
    obtain ⟨ne, q⟩ := hv
    cases v <;> first | exact absurd rfl ne | exact wpAny_pure ⟨_, rfl, q⟩
  have one : wpAny (model prog w) A (tryCompare (.ref x) "__gt__" (.ref y)) (fun r s' => r = none ∧ s' = s) E s := by
    unfold tryCompare
    refine wpAny_bind (bound_blt Y I h1 PySem.F.slot_enumerate_gt.bind (slot_call (n := "__gt__") PySem.F.slot_enumerate_gt.plain entry_objGt (by decide +kernel) (by decide +kernel) (args_objGt _ _) Y I hm ?_))
    refine wpAny_bind (m := slotArgs "__gt__" 1 _) (wpAny_pure (wpAny_pure ⟨_, rfl, ?_⟩))
    exact wpAny_pure ⟨rfl, rfl⟩
  unfold richCompare
  simp only [oneThing_ref]
  refine wpAny_holding (wpAny_bind (wpAny_cRoomFor (by omega) ?_))
  refine wpAny_bind (I.type.here (wpAny_bind (J.type.here ?_)))
  rw [if_neg (by simp)]
  refine wpAny_bind (wpAny_pure ?_)
  simp only [Bool.false_eq_true, if_false]
  refine wpAny_bind (wpAny_mono one (fun r s' z => ?_) fun _ _ z => z)
  obtain ⟨rfl, rfl⟩ := z
  simp only [Bool.not_false, if_true]
  refine wpAny_bind (wpAny_mono two (fun r s' z => ?_) fun _ _ z => z)
  obtain ⟨v, rfl, q⟩ := z
  exact wpAny_pure q
theorem own_abs {Q : Value → Shared → Prop} (Y : K.In s.heap) (I : PySem.W.InstAt s.heap x ox C od) (hs : findIn K (.ref C) "__abs__" = some (some (.ref f))) (hf : isFn K (.ref f) = true)
    (h : wpAny (model prog w) A.in1 (PySem.call (.ref f) [.ref x]) Q E s) : wpAny (model prog w) A (PySem.call (.builtin "abs") [.ref x]) Q E s := by
  refine call_function_entry kind_abs plain_abs entry_abs (args_abs _) ?_
  unfold Builtin.«abs»
  refine wpAny_bind (m := oneArg "abs" _) (wpAny_pure ?_)
  exact wpAny_bind (special_fn Y I hs (beq_iff_eq.mp hf) (wpAny_mono h (fun _ _ z => wpAny_pure ⟨_, rfl, z⟩) fun _ _ z => z))
end
/-! ### the own method, run a little below -/
section
variable {X : Cx} {CX : CXT} {k : Nat} {f C : Addr} {fd : FuncData} {ps : List Str} {sp : Sp} {E : L2.St → XK}
theorem run_fnA {A : Around} {pins : List (Addr × Obj)} {σ : L2.St} {H : Hp} {s : Shared} {Q : VK} {us : List Value} {vs : List V} (hA : A.frames = X.A.frames) (F : FnOk X.prog X.w X.K X.mg X.base CX k f fd ps sp) (hr : Room k A) (hb : Binds X.K fd ps []) (hx : PassesAt CX X σ (E σ))
    (I : Inv X pins σ H s) (r : Vals vs us) (h : sp vs H Q (E σ)) : wpAny (model X.prog X.w) A (PySem.call (.ref f) us) (EP X pins σ Q) X.xe s := by
  have hl : (us ++ []).length = ps.length := by rw [List.append_nil, ← r.length]; exact F.len _ _ _ _ h
  have e0 : Env0 X.prog X.w X.K X.mg X.base A X.stack s H := by
    have e := I.env0
    exact ⟨by rw [hA]; exact e.frames, e.mod, e.bs, e.bsz, e.funs, e.frf, e.hok, e.bare⟩
  have hb' := hb s us I.kIn hl
  rw [List.append_nil] at hb'
  refine wpAny_call (codeAny_mono (F.run A X.stack s H ⟨us, []⟩ us vs Q (E σ) hr e0 hb' r h) fun r s' hq => ?_)
  cases r with
  | error e => exact hx pins H s e s' I hq
  | ok fl =>
    cases fl with
    | ret u => exact I.after hq
    | next => exact False.elim hq
    | brk => exact False.elim hq
    | cont => exact False.elim hq
theorem ep_ne {pins : List (Addr × Obj)} {σ : L2.St} {Q : VK} {v : Value} {s' : Shared} (h : EP X pins σ Q v s') : v ≠ .notImplemented := by
  rintro rfl
  obtain ⟨x, H', I', r, _⟩ := h
  cases x <;> first | (obtain ⟨_, r⟩ := r; cases r) | cases r
theorem cmpBk {P : Value → Shared → Prop} {v : Value} {s' : Shared} (n : v ≠ .notImplemented) (h : P v s') : PySem.W.CmpBack P v s' := by
  cases v <;> first | exact absurd rfl n | exact h
/-- x op y, x of class C, y of a kind that does not come first -/
def rOwnC (K : PySem.W.Frag) (C : Addr) (sp : Sp) (E : L2.St → XK) : R3 := fun σ x y H Q => ∃ p dx fs t, x = .ref p ∧ H p = some (.ins C dx fs) ∧ TyX K H y t ∧ PySem.W.notFirst K C t = true ∧ sp [x, y] H Q (E σ)
theorem ty_looks {pins : List (Addr × Obj)} {σ : L2.St} {H : Hp} {s : Shared} {y : V} {u t : Value} (I : Inv X pins σ H s) (ry : RelV y u) (ty : TyX X.K H y t) : PySem.W.Looks (model X.prog X.w) s.heap (PySem.typeOf u) t := by
  obtain ⟨P, kx, hp, _⟩ := kit_of I ry ty
  exact kx.ty _ _ I.kIn hp
theorem op_ownC {op : CmpOp} (hop : ∀ a b, compareOp op a b = richCompare op a b) (hm : Meth X.K C (cmpInfo op).2.1 f) (F : FnOk X.prog X.w X.K X.mg X.base CX k f fd ps sp) (hr : Room k X.A) (hb : Binds X.K fd ps []) (hx : ∀ σ, PassesAt CX X σ (E σ)) : OpRS X (compareOp op) (rOwnC X.K C sp E) := by
  intro pins s σ H x y v u Q I rx ry h
  obtain ⟨p, dx, fs, t, rfl, hp, ty, nf, h⟩ := h
  obtain rfl : v = Value.ref p := rx
  obtain ⟨mA, O, _⟩ := ins_get I.hok hp
  obtain ⟨od, J, _⟩ := O.look
  obtain ⟨m, hF⟩ := I.fr
  rw [hop]
  refine PySem.W.cmp_K (op := op) (tb := t) hr.units0 hF I.ok.mod.kin J (ty_looks I ry ty) nf hm.at_ hm.fn ?_
  exact wpAny_mono (run_fnA (us := [.ref p, u]) (vs := [.ref p, y]) rfl F hr hb (hx σ) I (.cons rfl (.cons ry .nil)) h) (fun v s' z => cmpBk (ep_ne z) z) fun _ _ z => z
/-- x != y by the own == -/
def rOwnN (K : PySem.W.Frag) (C : Addr) (sp : Sp) (E : L2.St → XK) : R3 := fun σ x y H Q => ∃ p dx fs t, x = .ref p ∧ H p = some (.ins C dx fs) ∧ TyX K H y t ∧ PySem.W.notFirst K C t = true ∧ sp [x, y] H (fun v H' => ∃ c, v = .bl c ∧ Q (.bl (!c)) H') (E σ)
theorem op_ownN (ho : PySem.W.mroIn X.K C (.type "object") = some true) (hn : PySem.W.findIn X.K (.ref C) "__ne__" = some (some (.builtin "object.__ne__"))) (hm : Meth X.K C "__eq__" f) (F : FnOk X.prog X.w X.K X.mg X.base CX k f fd ps sp) (hr : Room (k + 1) X.A) (hb : Binds X.K fd ps []) (hx : ∀ σ, PassesAt CX X σ (E σ)) : OpRS X (compareOp .NotEq) (rOwnN X.K C sp E) := by
  intro pins s σ H x y v u Q I rx ry h
  obtain ⟨p, dx, fs, t, rfl, hp, ty, nf, h⟩ := h
  obtain rfl : v = Value.ref p := rx
  obtain ⟨mA, O, _⟩ := ins_get I.hok hp
  obtain ⟨od, J, _⟩ := O.look
  show wpAny _ _ (richCompare .NotEq (.ref p) u) _ _ _
  refine own_ne (by have := hr.units; omega) I.kIn J (ty_looks I ry ty) nf ho hn hm.at_ hm.fn ?_
  refine wpAny_mono (run_fnA (A := X.A.in1) (us := [.ref p, u]) (vs := [.ref p, y]) rfl F hr.in1 hb (hx σ) I (.cons rfl (.cons ry .nil)) h) (fun v s' z => ?_) fun _ _ z => z
  obtain ⟨v, H', I', r, c, rfl, q⟩ := z
  cases r
  exact ⟨c, rfl, .bl (!c), H', I', rfl, q⟩
/-- x > y by the own < -/
def rOwnG (C : Addr) (sp : Sp) (E : L2.St → XK) : R3 := fun σ x y H Q => ∃ p q dx dy fs gs, x = .ref p ∧ y = .ref q ∧ H p = some (.ins C dx fs) ∧ H q = some (.ins C dy gs) ∧ sp [y, x] H Q (E σ)
theorem op_ownG (ho : PySem.W.mroIn X.K C (.type "object") = some true) (hn : PySem.W.findIn X.K (.ref C) "__gt__" = some (some (.builtin "object.__gt__"))) (hm : Meth X.K C "__lt__" f) (F : FnOk X.prog X.w X.K X.mg X.base CX k f fd ps sp) (hr : Room k X.A) (hb : Binds X.K fd ps []) (hx : ∀ σ, PassesAt CX X σ (E σ)) : OpRS X (compareOp .Gt) (rOwnG C sp E) := by
  intro pins s σ H x y v u Q I rx ry h
  obtain ⟨p, q, dx, dy, fs, gs, rfl, rfl, hp, hq, h⟩ := h
  obtain rfl : v = Value.ref p := rx
  obtain rfl : u = Value.ref q := ry
  obtain ⟨mA, O, _⟩ := ins_get I.hok hp
  obtain ⟨od, J, _⟩ := O.look
  obtain ⟨mB, O2, _⟩ := ins_get I.hok hq
  obtain ⟨od2, J2, _⟩ := O2.look
  show wpAny _ _ (richCompare .Gt (.ref p) (.ref q)) _ _ _
  refine own_gtR (by have := hr.units; omega) I.kIn J J2 ho hn hm.at_ hm.fn ?_
  exact wpAny_mono (run_fnA (us := [.ref q, .ref p]) (vs := [.ref q, .ref p]) rfl F hr hb (hx σ) I (.cons rfl (.cons rfl .nil)) h) (fun v s' z => ⟨ep_ne z, z⟩) fun _ _ z => z
end

/-! M20: mirrors of operators by own methods -/
section
variable {G : Ga} {W : L2.WX} {X : Cx}
theorem sub_kit {K : PySem.W.Frag} {t : Value} {C : Addr} (h : PySem.W.kitOne K t (.ref C) = some false) : PySem.W.subIn K t (.ref C) = some false := by
  unfold PySem.W.kitOne at h
  split at h
  · cases h
  · unfold PySem.W.kitCls at h
    dsimp only at h
    split at h
    · exact h
    · cases h
theorem tag_notFirst {g : Tag} {c : String} (hc : c ∈ G.cs) (hg : ∀ e, g = .cl e → e ∈ G.cs) (hn : ∀ n, g = .ty n → n ∈ ["int", "bool", "str", "list", "tuple", "dict", "NoneType"]) : PySem.W.notFirst G.K (G.ca c) (g.val G) = true := by
  unfold PySem.W.notFirst
  cases g with
  | ty n =>
    rw [Bool.or_eq_true]
    exact .inr (beq_iff_eq.mpr (sub_kit ((G.cok c hc).i n (hn n rfl))))
  | cl e =>
    by_cases q : e = c
    · subst q
      rw [Bool.or_eq_true]
      exact .inl (beq_self_eq_true _)
    · rw [Bool.or_eq_true]
      exact .inr (beq_iff_eq.mpr (sub_kit (by rw [show (Tag.cl e).val G = .ref (G.ca e) from rfl, G.kit e (hg e rfl) c hc, decide_eq_false q])))
/-- x op y by the own method g of class c -/
def oOwnC (c : String) (g : MF) : O2 := fun x y st => match objOf x st, tagOf y st with
  | some (c1, _), some _ => if c1 = c then g [x, y] st else .bad
  | _, _ => .bad
def notV : Res Va → Res Va
  | .ok (.d (.bl b)) st => .ok (.d (.bl (!b))) st
  | .er c fs st => .er c fs st
  | _ => .bad
def oOwnN (c : String) (g : MF) : O2 := fun x y st => notV (oOwnC c g x y st)
def oOwnG (c : String) (g : MF) : O2 := fun x y st => match objOf x st, objOf y st with
  | some (c1, _), some (c2, _) => if c1 = c ∧ c2 = c then g [y, x] st else .bad
  | _, _ => .bad
/-- right side an int -/
def oOwnI (c : String) (g : MF) : O2 := fun x y st => match objOf x st, y with
  | some (c1, _), .d (.int _) => if c1 = c then g [x, y] st else .bad
  | _, _ => .bad
theorem own_sp {f g : MF} {vs : List V} {ds : List Va} {H F : Hp} {ad : List Addr} {st : Sto} {Q : VK} {E : XK} (hg : (∀ ds st, g ds st = f ds st) ∨ (∀ ds st, g ds st = pureF f ds st)) (S : SR G H F ad st) (r : RepVs G F ad vs ds) (h : Po G E H F ad (QV G Q) (g ds st)) : spM G f vs H Q E := by
  rcases hg with hg | hg
  · rw [hg] at h
    exact ⟨F, ad, st, _, S, r, h⟩
  · rw [hg] at h
    exact spM_pure S r h
theorem sim_ownC {f g : MF} {c : String} (hc : c ∈ G.cs) (hg : (∀ ds st, g ds st = f ds st) ∨ (∀ ds st, g ds st = pureF f ds st)) : SimR3 G W (rOwnC G.K (G.ca c) (spM G f) (WE W)) (oOwnC c g) := by
  intro σ x y dx dy H F ad st Q rx ry S h
  unfold oOwnC at h
  cases z1 : objOf dx st with
  | none => simp only [z1] at h; exact h.elim
  | some p1 => cases z2 : tagOf dy st with
    | none => simp only [z1, z2] at h; exact h.elim
    | some tg =>
      obtain ⟨c1, fs⟩ := p1
      simp only [z1, z2] at h
      split at h
      · rename_i e
        subst e
        obtain ⟨p, dxx, vfs, rfl, _, hp, _⟩ := objOf_ok S rx z1
        obtain ⟨t1, t2, t3⟩ := tagOf_ok S ry z2
        exact ⟨p, dxx, vfs, _, rfl, hp, t1, tag_notFirst hc t2 t3, own_sp hg S (.cons rx (.cons ry .nil)) h⟩
      · exact h.elim
theorem po_not {Wv : Value → Option Addr → Hp → Prop} {H F : Hp} {ad : List Addr} {Q : VK} {r : Res Va} (h : Po G Wv H F ad (QV G Q) (notV r)) : Po G Wv H F ad (QV G fun v H' => ∃ c, v = .bl c ∧ Q (.bl (!c)) H') r := by
  cases r with
  | bad => exact h
  | er c fs st => exact h
  | ok v st =>
    cases v with
    | ref n => exact h.elim
    | d x => cases x with
      | bl b =>
        intro H' F' ad' e S v rv
        cases rv
        exact ⟨b, rfl, h H' F' ad' e S _ (.bl _)⟩
      | _ => exact h.elim
theorem sim_ownN {f g : MF} {c : String} (hc : c ∈ G.cs) (hg : (∀ ds st, g ds st = f ds st) ∨ (∀ ds st, g ds st = pureF f ds st)) : SimR3 G W (rOwnN G.K (G.ca c) (spM G f) (WE W)) (oOwnN c g) := by
  intro σ x y dx dy H F ad st Q rx ry S h
  have h := po_not h
  exact sim_ownC (W := W) hc hg σ x y dx dy H F ad st _ rx ry S h
theorem sim_ownG {f g : MF} {c : String} (hg : (∀ ds st, g ds st = f ds st) ∨ (∀ ds st, g ds st = pureF f ds st)) : SimR3 G W (rOwnG (G.ca c) (spM G f) (WE W)) (oOwnG c g) := by
  intro σ x y dx dy H F ad st Q rx ry S h
  unfold oOwnG at h
  cases z1 : objOf dx st with
  | none => simp only [z1] at h; exact h.elim
  | some p1 => cases z2 : objOf dy st with
    | none => simp only [z1, z2] at h; exact h.elim
    | some p2 =>
      obtain ⟨c1, fs⟩ := p1
      obtain ⟨c2, gs⟩ := p2
      simp only [z1, z2] at h
      split at h
      · rename_i e
        obtain ⟨rfl, rfl⟩ := e
        obtain ⟨p, dxx, vfs, rfl, _, hp, _⟩ := objOf_ok S rx z1
        obtain ⟨q, dyy, wfs, rfl, _, hq, _⟩ := objOf_ok S ry z2
        exact ⟨p, q, dxx, dyy, vfs, wfs, rfl, rfl, hp, hq, own_sp hg S (.cons ry (.cons rx .nil)) h⟩
      · exact h.elim
section
variable {k : Nat} {fa : Addr} {ps : List Str} {f : MF} {c : String} {a b : Expr} {pos : Pos} {ma mb : ME}
theorem gset {g : MF} (hg : g = f ∨ g = pureF f) : (∀ ds st, g ds st = f ds st) ∨ (∀ ds st, g ds st = pureF f ds st) := hg.elim (fun e => .inl fun ds st => by rw [e]) fun e => .inr fun ds st => by rw [e]
theorem okb0 {P : Program} {w : World} {K : PySem.W.Frag} {mg : Str → Option Value} {base : Heap} {sp : Sp} (F : OkB P w K mg base k fa ps [] sp) : ∃ fd, FnOk P w K mg base (L2.CX P w) k fa fd ps sp ∧ Binds K fd ps [] := by
  obtain ⟨fd, ds, F, hv, hb, _⟩ := F
  cases hv
  exact ⟨fd, F, hb⟩
theorem or_ownC {op : CmpOp} (hop : ∀ a b, compareOp op a b = richCompare op a b := by intros; rfl) (hK : X.K = G.K) (hm : Meth G.K (G.ca c) (cmpInfo op).2.1 fa) (F : OkB X.prog X.w X.K X.mg X.base k fa ps [] (spM G f)) (hr : Room k X.A) (tk : Takes X W) : OpRS X (compareOp op) (rOwnC G.K (G.ca c) (spM G f) (WE W)) := by
  obtain ⟨fd, F, hb⟩ := okb0 F
  have := op_ownC (E := WE W) hop (by rw [hK]; exact hm) F hr hb (passAt tk)
  rw [hK] at this
  exact this
theorem or_ownN (hK : X.K = G.K) (hc : c ∈ G.cs) (hn : PySem.W.findIn G.K (.ref (G.ca c)) "__ne__" = some (some (.builtin "object.__ne__"))) (hm : Meth G.K (G.ca c) "__eq__" fa) (F : OkB X.prog X.w X.K X.mg X.base k fa ps [] (spM G f)) (hr : Room (k + 1) X.A) (tk : Takes X W) : OpRS X (compareOp .NotEq) (rOwnN G.K (G.ca c) (spM G f) (WE W)) := by
  obtain ⟨fd, F, hb⟩ := okb0 F
  have := op_ownN (E := WE W) (by rw [hK]; exact (G.cok c hc).tm) (by rw [hK]; exact hn) (by rw [hK]; exact hm) F hr hb (passAt tk)
  rw [hK] at this
  exact this
theorem or_ownG (hK : X.K = G.K) (hc : c ∈ G.cs) (hn : PySem.W.findIn G.K (.ref (G.ca c)) "__gt__" = some (some (.builtin "object.__gt__"))) (hm : Meth G.K (G.ca c) "__lt__" fa) (F : OkB X.prog X.w X.K X.mg X.base k fa ps [] (spM G f)) (hr : Room k X.A) (tk : Takes X W) : OpRS X (compareOp .Gt) (rOwnG (G.ca c) (spM G f) (WE W)) := by
  obtain ⟨fd, F, hb⟩ := okb0 F
  exact op_ownG (E := WE W) (by rw [hK]; exact (G.cok c hc).tm) (by rw [hK]; exact hn) (by rw [hK]; exact hm) F hr hb (passAt tk)
end
end
/-! own op int -/
section
variable {X : Cx} {CX : CXT} {k : Nat} {f C : Addr} {fd : FuncData} {ps : List Str} {sp : Sp} {E : L2.St → XK}
def rOwnI (C : Addr) (sp : Sp) (E : L2.St → XK) : R3 := fun σ x y H Q => ∃ p dx fs i, x = .ref p ∧ y = .int i ∧ H p = some (.ins C dx fs) ∧ sp [x, y] H Q (E σ)
/-- what an own operator beside ints wants -/
structure OwnI (K : PySem.W.Frag) (C : Addr) (nm : String) : Prop where
  sf : PySem.W.selfFirst K C = true
  rc : ∃ rc, PySem.W.findIn K (.ref C) (PySem.dunderR nm) = some rc ∧ (rc = none ∨ ∃ g : Addr, rc = some (.ref g))
  f1 : ∃ fo, PySem.W.findIn K (.type "int") (PySem.dunder nm) = some fo
  f2 : ∃ fo, PySem.W.findIn K (.type "int") (PySem.dunderR nm) = some fo
  su : PySem.W.subIn K (.type "int") (.ref C) = some false
theorem op_ownI {op : Operator} (o : OwnI X.K C op.info.2) (hm : Meth X.K C (PySem.dunder op.info.2) f) (F : FnOk X.prog X.w X.K X.mg X.base CX k f fd ps sp) (hr : Room k X.A) (hb : Binds X.K fd ps []) (hx : ∀ σ, PassesAt CX X σ (E σ)) : OpRS X (binaryOp op) (rOwnI C sp E) := by
  intro pins s σ H x y v u Q I rx ry h
  obtain ⟨p, dx, fs, i, rfl, rfl, hp, h⟩ := h
  obtain rfl : v = Value.ref p := rx
  have ry' := ry
  obtain ⟨t, rfl⟩ := ry
  obtain ⟨mA, O, _⟩ := ins_get I.hok hp
  obtain ⟨od, J, _⟩ := O.look
  obtain ⟨m, hF⟩ := I.fr
  obtain ⟨rc, h1, h2⟩ := o.rc
  obtain ⟨fo, h3⟩ := o.f1
  obtain ⟨ro, h4⟩ := o.f2
  refine PySem.W.ksp_binT (T := "int") hF I.ok.mod.kin J rfl o.sf hm.at_ hm.fn h1 h2 h3 h4 o.su ?_
  exact wpAny_mono (run_fnA (us := [.ref p, .int i t]) (vs := [.ref p, .int i]) rfl F hr hb (hx σ) I (.cons rfl (.cons ry' .nil)) h) (fun v s' z => cmpBk (ep_ne z) z) fun _ _ z => z
/-- own x op own y -/
theorem op_ownB {op : Operator} (hc : PySem.W.selfFirst X.K C = true) (hm : Meth X.K C (PySem.dunder op.info.2) f) (F : FnOk X.prog X.w X.K X.mg X.base CX k f fd ps sp) (hr : Room k X.A) (hb : Binds X.K fd ps []) (hx : ∀ σ, PassesAt CX X σ (E σ)) :
    OpRS X (binaryOp op) (fun σ x y H Q => ∃ p q dx dy fs gs, x = .ref p ∧ y = .ref q ∧ H p = some (.ins C dx fs) ∧ H q = some (.ins C dy gs) ∧ sp [x, y] H Q (E σ)) := by
  intro pins s σ H x y v u Q I rx ry h
  obtain ⟨p, q, dx, dy, fs, gs, rfl, rfl, hp, hq, h⟩ := h
  obtain rfl : v = Value.ref p := rx
  obtain rfl : u = Value.ref q := ry
  exact run_own hc hm F hr hb (hx σ) I hp hq h
end
section
variable {G : Ga} {W : L2.WX} {X : Cx} {k : Nat} {fa : Addr} {ps : List Str} {f : MF} {c : String}
theorem sim_ownI {g : MF} (hg : (∀ ds st, g ds st = f ds st) ∨ (∀ ds st, g ds st = pureF f ds st)) : SimR3 G W (rOwnI (G.ca c) (spM G f) (WE W)) (oOwnI c g) := by
  intro σ x y dx dy H F ad st Q rx ry S h
  unfold oOwnI at h
  cases z1 : objOf dx st with
  | none => simp only [z1] at h; exact h.elim
  | some p1 =>
    obtain ⟨c1, fs⟩ := p1
    simp only [z1] at h
    cases dy with
    | ref n => exact h.elim
    | d dy => cases dy with
      | int i =>
        replace h : Po G (fun c d H' => W c d σ H') H F ad (QV G Q) (if c1 = c then g [dx, .d (.int i)] st else .bad) := h
        split at h
        · rename_i e
          subst e
          obtain ⟨p, dxx, vfs, rfl, _, hp, _⟩ := objOf_ok S rx z1
          have ry' := ry
          cases ry
          exact ⟨p, dxx, vfs, i, rfl, rfl, hp, own_sp hg S (.cons rx (.cons ry' .nil)) h⟩
        · exact h.elim
      | _ => exact h.elim
theorem or_ownI {op : Operator} (hK : X.K = G.K) (o : OwnI G.K (G.ca c) op.info.2) (hm : Meth G.K (G.ca c) (PySem.dunder op.info.2) fa) (F : OkB X.prog X.w X.K X.mg X.base k fa ps [] (spM G f)) (hr : Room k X.A) (tk : Takes X W) : OpRS X (binaryOp op) (rOwnI (G.ca c) (spM G f) (WE W)) := by
  obtain ⟨fd, F, hb⟩ := okb0 F
  exact op_ownI (E := WE W) (by rw [hK]; exact o) (by rw [hK]; exact hm) F hr hb (passAt tk)
/-- own op own -/
def oOwnB (c : String) (g : MF) : O2 := fun x y st => match objOf x st, objOf y st with
  | some (c1, _), some (c2, _) => if c1 = c ∧ c2 = c then g [x, y] st else .bad
  | _, _ => .bad
theorem sim_ownB {g : MF} (hg : (∀ ds st, g ds st = f ds st) ∨ (∀ ds st, g ds st = pureF f ds st)) : SimR3 G W (fun σ x y H Q => ∃ p q dx dy fs gs, x = .ref p ∧ y = .ref q ∧ H p = some (.ins (G.ca c) dx fs) ∧ H q = some (.ins (G.ca c) dy gs) ∧ spM G f [x, y] H Q (WE W σ)) (oOwnB c g) := by
  intro σ x y dx dy H F ad st Q rx ry S h
  unfold oOwnB at h
  cases z1 : objOf dx st with
  | none => simp only [z1] at h; exact h.elim
  | some p1 => cases z2 : objOf dy st with
    | none => simp only [z1, z2] at h; exact h.elim
    | some p2 =>
      obtain ⟨c1, fs⟩ := p1
      obtain ⟨c2, gs⟩ := p2
      simp only [z1, z2] at h
      split at h
      · rename_i e
        obtain ⟨rfl, rfl⟩ := e
        obtain ⟨p, dxx, vfs, rfl, _, hp, _⟩ := objOf_ok S rx z1
        obtain ⟨q, dyy, wfs, rfl, _, hq, _⟩ := objOf_ok S ry z2
        exact ⟨p, q, dxx, dyy, vfs, wfs, rfl, rfl, hp, hq, own_sp hg S (.cons rx (.cons ry .nil)) h⟩
      · exact h.elim
theorem or_ownB {op : Operator} (hK : X.K = G.K) (hs : PySem.W.selfFirst G.K (G.ca c) = true) (hm : Meth G.K (G.ca c) (PySem.dunder op.info.2) fa) (F : OkB X.prog X.w X.K X.mg X.base k fa ps [] (spM G f)) (hr : Room k X.A) (tk : Takes X W) :
    OpRS X (binaryOp op) (fun σ x y H Q => ∃ p q dx dy fs gs, x = .ref p ∧ y = .ref q ∧ H p = some (.ins (G.ca c) dx fs) ∧ H q = some (.ins (G.ca c) dy gs) ∧ spM G f [x, y] H Q (WE W σ)) := by
  obtain ⟨fd, F, hb⟩ := okb0 F
  exact op_ownB (E := WE W) (by rw [hK]; exact hs) (by rw [hK]; exact hm) F hr hb (passAt tk)
end
/-! x[i] by the own __getitem__; abs(x) by the own __abs__ -/
section
variable {X : Cx} {CX : CXT} {k : Nat} {f C : Addr} {fd : FuncData} {ps : List Str} {sp : Sp} {E : L2.St → XK} {a b : Expr} {ta tb : TE} {pos : Pos}
def rOwnX (C : Addr) (sp : Sp) (E : L2.St → XK) : R3 := fun σ x y H Q => ∃ p dx fs, x = .ref p ∧ H p = some (.ins C dx fs) ∧ sp [x, y] H Q (E σ)
theorem pe_ownX (ha : PE X a ta) (hb' : PE X b tb) (hm : Meth X.K C "__getitem__" f) (hfi : PySem.W.fnIn X.K f = true) (F : FnOk X.prog X.w X.K X.mg X.base CX k f fd ps sp) (hr : Room (k + 1) X.A) (hb : Binds X.K fd ps []) (hx : ∀ σ, PassesAt CX X σ (E σ))
    (hsl : ∀ o i, subscripted b true o i = runValue (.builtin "lifetime.subscript" ⟨[o, i], []⟩)) : PE X (.Subscript a b pos) (tOpS (rOwnX C sp E) ta tb) := by
  refine ⟨fun pins s σ H Q I h => ?_⟩
  refine PyProof.Rows.Subscript_ (binT ha hb' I h fun v u s2 x y H2 I2 rx ry z => ?_)
  obtain ⟨p, dx, fs, rfl, hp, z⟩ := z
  obtain rfl : v = Value.ref p := rx
  obtain ⟨mA, O, _⟩ := ins_get I2.hok hp
  obtain ⟨od, J, _⟩ := O.look
  obtain ⟨m, hF⟩ := I2.fr
  refine PySem.W.sub_K hF I2.ok.mod.kin J hm.at_ hfi hm.fn ?_ (hsl _ _)
  exact run_fnA (A := X.A.in1) (us := [.ref p, u]) (vs := [.ref p, y]) rfl F hr.in1 hb (hx σ) I2 (.cons rfl (.cons ry .nil)) z
/-- built-ins called with what they may raise -/
def CallRS (X : Cx) (f : Value) (r : L2.St → List V → Hp → VK → Prop) : Prop := ∀ (pins : List (Addr × Obj)) (s : Shared) (σ : L2.St) (H : Hp) (xs : List V) (us : List Value) (Q : VK), Inv X pins σ H s → Vals xs us → r σ xs H Q → wpAny (model X.prog X.w) X.A (PySem.call f us) (EP X pins σ Q) X.xe s
def tCBS (r : L2.St → List V → Hp → VK → Prop) (t : TA) : TE := fun σ H Q => t σ H fun vs H1 => r σ vs H1 Q
theorem pe_callBS {id : String} {x : Str} {p : Pos} {e : Expr} {es : List Expr} {t : TA} {r : L2.St → List V → Hp → VK → Prop} (hc : CallRS X (.builtin id) r) (hg : Gl X x) (hm : X.mg x = none) (hv : bootBuiltins x = some (.builtin id)) (ha : PA X (e :: es) t) (hn : x ≠ "__name__" := by decide) (hdb : (x == ("__debug__" : Str)) = false := by decide)
    (he : starEach (e :: es) X.env = (false, eval e X.env) :: starEach es X.env := by rfl) (hpl : (backTo pos (starEach es X.env)).any (·.1) = false := by rfl) : PE X (.Call (.Name x p) (e :: es) [] pos) (tCBS r t) := by
  refine ⟨fun pins s σ H Q I h => ?_⟩
  refine wpAny_Call_Name_kw (ld_blt I hg hm hv ?_ hn hdb)
  exact PyProof.Rows.callWith_builtin1 (thn (ha.run pos pins s σ H _ I h) fun us s1 ⟨vs, H1, I1, r1, q1⟩ => hc pins s1 σ H1 vs us Q I1 r1 q1) he hpl
def rOwnAbs (C : Addr) (sp : Sp) (E : L2.St → XK) : L2.St → List V → Hp → VK → Prop := fun σ xs H Q => ∃ p dx fs, xs = [.ref p] ∧ H p = some (.ins C dx fs) ∧ sp [.ref p] H Q (E σ)
theorem cr_ownAbs (hm : Meth X.K C "__abs__" f) (F : FnOk X.prog X.w X.K X.mg X.base CX k f fd ps sp) (hr : Room (k + 1) X.A) (hb : Binds X.K fd ps []) (hx : ∀ σ, PassesAt CX X σ (E σ)) : CallRS X (.builtin "abs") (rOwnAbs C sp E) := by
  intro pins s σ H xs us Q I r h
  obtain ⟨p, dx, fs, rfl, hp, z⟩ := h
  cases r with
  | cons r1 r2 =>
    cases r2
    obtain rfl := r1
    obtain ⟨mA, O, _⟩ := ins_get I.hok hp
    obtain ⟨od, J, _⟩ := O.look
    refine own_abs I.kIn J hm.at_ hm.fn ?_
    exact run_fnA (A := X.A.in1) (us := [.ref p]) (vs := [.ref p]) rfl F hr.in1 hb (hx σ) I (.cons rfl .nil) z
end
section
variable {G : Ga} {W : L2.WX} {X : Cx} {k : Nat} {fa : Addr} {ps : List Str} {f : MF} {c : String}
def SimCS (G : Ga) (W : L2.WX) (r : L2.St → List V → Hp → VK → Prop) (f : OL) : Prop := ∀ (σ : L2.St) (vs : List V) (ds : List Va) (H F : Hp) (ad : List Addr) (st : Sto) (Q : VK), RepVs G F ad vs ds → SR G H F ad st → Po G (fun c d H' => W c d σ H') H F ad (QV G Q) (f ds st) → r σ vs H Q
theorem sim_cbS {r : L2.St → List V → Hp → VK → Prop} {f : OL} {t : TA} {m : MA} (hs : SimCS G W r f) (st : SimA G W t m) : SimE G W (tCBS r t) (mCB f m) := by
  intro σ ρ H F ad st0 Q R S h
  exact simA_bind st R S h fun xs vs st1 H1 F1 ad1 _ R1 S1 rvs h1 => hs σ vs xs H1 F1 ad1 st1 Q rvs S1 h1
theorem de_cbS {x : Str} {id : String} {r : L2.St → List V → Hp → VK → Prop} {f : OL} {e : Expr} {es : List Expr} {p pos : Pos} {m : MA} (hc : CallRS X (.builtin id) r) (hs : SimCS G W r f) (hg : Gl X x) (hm : X.mg x = none) (hv : bootBuiltins x = some (.builtin id)) (ha : DA G W X (e :: es) m)
    (hn : x ≠ "__name__" := by decide) (hdb : (x == ("__debug__" : Str)) = false := by decide) (he : starEach (e :: es) X.env = (false, eval e X.env) :: starEach es X.env := by rfl) (hpl : (backTo pos (starEach es X.env)).any (·.1) = false := by rfl) : DE G W X (.Call (.Name x p) (e :: es) [] pos) (mCB f m) := by
  obtain ⟨t, pt, st⟩ := ha
  exact ⟨_, pe_callBS hc hg hm hv pt hn hdb he hpl, sim_cbS hs st⟩
/-- by the own method of one argument -/
def oOwn1 (c : String) (g : MF) : OL
  | [x], st => (match objOf x st with
    | some (c1, _) => if c1 = c then g [x] st else .bad
    | none => .bad)
  | _, _ => .bad
theorem sim_ownAbs {g : MF} (hg : (∀ ds st, g ds st = f ds st) ∨ (∀ ds st, g ds st = pureF f ds st)) : SimCS G W (rOwnAbs (G.ca c) (spM G f) (WE W)) (oOwn1 c g) := by
  intro σ vs ds H F ad st Q r S h0
  match ds, r, h0 with
  | [x], .cons (a := v) r .nil, h =>
    replace h : Po G (fun c d H' => W c d σ H') H F ad (QV G Q) (match objOf x st with
      | some (c1, _) => if c1 = c then g [x] st else .bad
      | none => .bad) := h
    cases z1 : objOf x st with
    | none => rw [z1] at h; exact h.elim
    | some p1 =>
      obtain ⟨c1, fs⟩ := p1
      rw [z1] at h
      replace h : Po G (fun c d H' => W c d σ H') H F ad (QV G Q) (if c1 = c then g [x] st else .bad) := h
      split at h
      · rename_i e
        subst e
        obtain ⟨p, dxx, vfs, rfl, _, hp, _⟩ := objOf_ok S r z1
        exact ⟨p, dxx, vfs, rfl, hp, own_sp hg S (.cons r .nil) h⟩
      · exact h.elim
  | [], _, h => exact h.elim
  | _ :: _ :: _, _, h => exact h.elim
theorem or_ownAbs (hK : X.K = G.K) (hm : Meth G.K (G.ca c) "__abs__" fa) (F : OkB X.prog X.w X.K X.mg X.base k fa ps [] (spM G f)) (hr : Room (k + 1) X.A) (tk : Takes X W) : CallRS X (.builtin "abs") (rOwnAbs (G.ca c) (spM G f) (WE W)) := by
  obtain ⟨fd, F, hb⟩ := okb0 F
  exact cr_ownAbs (E := WE W) (by rw [hK]; exact hm) F hr hb (passAt tk)
/-- x[i] -/
def oOwnX (c : String) (g : MF) : O2 := fun x y st => match objOf x st with
  | some (c1, _) => if c1 = c then g [x, y] st else .bad
  | none => .bad
theorem sim_ownX {g : MF} (hg : (∀ ds st, g ds st = f ds st) ∨ (∀ ds st, g ds st = pureF f ds st)) : SimR3 G W (rOwnX (G.ca c) (spM G f) (WE W)) (oOwnX c g) := by
  intro σ x y dx dy H F ad st Q rx ry S h
  unfold oOwnX at h
  cases z1 : objOf dx st with
  | none => rw [z1] at h; exact h.elim
  | some p1 =>
    obtain ⟨c1, fs⟩ := p1
    rw [z1] at h
    replace h : Po G (fun c d H' => W c d σ H') H F ad (QV G Q) (if c1 = c then g [dx, dy] st else .bad) := h
    split at h
    · rename_i e
      subst e
      obtain ⟨p, dxx, vfs, rfl, _, hp, _⟩ := objOf_ok S rx z1
      exact ⟨p, dxx, vfs, rfl, hp, own_sp hg S (.cons rx (.cons ry .nil)) h⟩
    · exact h.elim
theorem ck_ownX {a b : Expr} {pos : Pos} {ma mb : ME} (g : MF) (hK : X.K = G.K) (ha : DE G W X a ma) (hb : DE G W X b mb) (hm : Meth G.K (G.ca c) "__getitem__" fa) (hfi : PySem.W.fnIn G.K fa = true) (F : OkB X.prog X.w X.K X.mg X.base k fa ps [] (spM G f)) (hr : Room (k + 1) X.A) (tk : Takes X W) (hg : g = f ∨ g = pureF f)
    (hsl : ∀ o i, subscripted b true o i = runValue (.builtin "lifetime.subscript" ⟨[o, i], []⟩)) : DE G W X (.Subscript a b pos) (mBin (oOwnX c g) ma mb) := by
  obtain ⟨ta, pa, sa⟩ := ha
  obtain ⟨tb, pb, sb⟩ := hb
  obtain ⟨fd, F, hb⟩ := okb0 F
  exact ⟨_, pe_ownX pa pb (by rw [hK]; exact hm) (by rw [hK]; exact hfi) F hr hb (passAt tk) hsl, sim_opS (sim_ownX (gset hg)) sa sb⟩
end

/-! M21: enumerate over tuples and lists; star parameters and star calls; classmethods; more operators -/
section
open PySem.Spec PyProof.Rows
/-- enumerate of the tuple at a -/
def ItEt (K : PySem.W.Frag) (a : Addr) : It :=
  ⟨fun i H => ∃ (xs : List V) (x : V), SqT K H a xs ∧ xs[i]? = some x, fun i H v H' => ∃ T x, v = .ref T ∧ H T = none ∧ H' = upd H T (.tup [.int (i : Nat), x]) ∧ ∀ xs, SqT K H a xs → xs[i]? = some x, fun i H => ∃ xs : List V, SqT K H a xs ∧ xs.length = i⟩
theorem sqT_inj {X : Cx} {pins : List (Addr × Obj)} {σ : L2.St} {H : Hp} {s : Shared} {a : Addr} {xs ys : List V} (I : Inv X pins σ H s) (h : SqT X.K H a xs) (h2 : SqT X.K H a ys) : xs = ys := I.tuple_inj h h2
theorem turn_enumT {P : Program} {w : World} {K : PySem.W.Frag} {elts : List Expr} {kk : Nat} {tpos : Pos} (a e it : Addr) :
    Turn P w K (.Tuple elts kk tpos) (ItEt K a) [e, it] e (fun i h => (∃ old, IsEnum h e it ((i : Nat) : Int) old) ∧ h.IsTupleIter it a i ∧ e ≠ it ∧ e ≠ a ∧ a ≠ it) where
  mem := by simp
  obj := fun i h st b hb => by
    obtain ⟨⟨old, he⟩, ⟨o, ho, hc, hd⟩, _⟩ := st
    have e' : b = e ∨ b = it := by simpa using hb
    rcases e' with z | z
    · rw [z]; exact ⟨_, he, fun v q => nomatch q⟩
    · rw [z]; exact ⟨o, ho, fun v q => by rw [hd] at q; cases q⟩
  keep := fun i h h' st k => by
    obtain ⟨⟨old, he⟩, hi, n1, n2, n3⟩ := st
    exact ⟨⟨old, k e (by simp) _ he⟩, hi.at fun o q => k it (by simp) o q, n1, n2, n3⟩
  item := by
    intro X hP hw hK hc i pins s σ H E I hf st hg
    subst hP hw hK
    obtain ⟨⟨old, he⟩, hit, n1, n2, n3⟩ := st
    obtain ⟨xs, x, hq, hx⟩ := hg
    obtain ⟨its, rv, ⟨ot, hot, hct, nt, hdt⟩, hz⟩ := I.tuple hq
    have IT : s.heap.IsTuple a its.toArray := ⟨ot, hot, hct, nt, hdt⟩
    obtain ⟨u, hu, ru⟩ := rv.get hx
    have hel : e < s.heap.objs.size := Heap.lt_size he
    have hil : it < s.heap.objs.size := by obtain ⟨_, q, _⟩ := hit; exact Heap.lt_size q
    have hil2 : i < its.toArray.size := by rw [List.size_toArray]; exact (List.getElem?_eq_some_iff.mp hu).1
    have D := PySem.Draws.tuple (prog := X.prog) (w := X.w) (A := X.A.in1) (show X.A.in1.handled = none from I.ok.hd hc) it a n3 its.toArray
    refine PySem.wpAny_pyNext_enum_itemC D he ⟨hit, IT⟩ hil2 n1 (by simp [n1, n2]) fun x' h' tk hP ho hst hT hsz hk => ?_
    have ex : x' = u := by
      have hP' : its[i]? = some x' := by simpa using hP
      rw [hu] at hP'
      exact (Option.some.inj hP').symm
    subst ex
    refine ⟨_, rfl, wpAny_letOwnedTupleGo_enum (s := { s with heap := h', toks := tk + 1 }) ho fun h'' he' sb => ?_⟩
    have hT2 : h''.get? s.heap.objs.size = some { cls := .type "tuple", data := .seq #[.int i tk, x'] } := (sb.2 _ (Nat.ne_of_gt hel)).trans hT
    have new : ObjOk X.prog X.w (upd H s.heap.objs.size (.tup [.int (i : Nat), x])) h'' s.heap.objs.size (.tup [.int (i : Nat), x]) :=
      ⟨by show 2 ≤ sizeLine; decide, [.int i tk, x'], .cons ⟨_, rfl⟩ (.cons ru .nil), ⟨_, hT2, rfl, _, rfl⟩⟩
    have I1 : Inv X pins σ (upd H s.heap.objs.size (.tup [.int (i : Nat), x])) { s with heap := h'', toks := tk + 1 } :=
      I.turnedNew (ch := [e, it]) (fun b ob hb q => (sb.2 b (fun z => hb (by simp [z]))).trans (hk b ob (fun z => hb (by simp [z])) (fun z => hb (by simp [z])) q)) hf (Nat.le_refl _) new
    refine ⟨.ref s.heap.objs.size, _, I1, rfl, ⟨_, x, rfl, I.hok.fresh (Nat.le_refl _), rfl, fun ys hy => by rw [sqT_inj I hy hq]; exact hx⟩, ⟨⟨x', ?_⟩, hst.1.at fun o q => (sb.2 it (Ne.symm n1)).trans q, n1, n2, n3⟩, fun b hb => ?_⟩
    · rw [show ((i + 1 : Nat) : Int) = (i : Int) + 1 by omega]; exact he'
    · have hb' : b < s.heap.objs.size := by
        have e' : b = e ∨ b = it := by simpa using hb
        rcases e' with z | z
        · rw [z]; exact hel
        · rw [z]; exact hil
      rw [upd_ne (Nat.ne_of_lt hb')]
      exact (hf b hb).1
  done := by
    intro X hP hw hK hc i pins s σ H E I hf st hg
    subst hP hw hK
    obtain ⟨⟨old, he⟩, hit, n1, n2, n3⟩ := st
    obtain ⟨xs, hq, hx⟩ := hg
    obtain ⟨its, rv, ⟨ot, hot, hct, nt, hdt⟩, hz⟩ := I.tuple hq
    have IT : s.heap.IsTuple a its.toArray := ⟨ot, hot, hct, nt, hdt⟩
    obtain ⟨f0, f1, f2, f3, f4, f5⟩ := hf it (by simp)
    have hl : its.toArray.size = i := by rw [List.size_toArray, ← rv.length, hx]
    have D := PySem.Draws.tuple (prog := X.prog) (w := X.w) (A := X.A.in1) (show X.A.in1.handled = none from I.ok.hd hc) it a n3 its.toArray
    exact PySem.wpAny_pyNext_enum_endD D he ⟨by rw [hl]; exact hit, IT⟩ fun h' eb => ⟨rfl, I.turned (t' := s.toks) (fun b o hb q => eb b o hb q) f0 f1 f3 f4 f5⟩
  self := fun A i s Q E st h => let ⟨⟨_, he⟩, _⟩ := st; PySem.wpAny_pyIter_enum he h
theorem meets_enumT (l : Addr) (items : Array Value) :
    PySem.Meets (Builtin.«enumerate.__new__» ⟨[.type "enumerate", .ref l], []⟩) (fun _ R s => s.heap.IsTuple l items ∧
      R (.ok (.ret (.ref (s.heap.push { cls := .type "tuple_iterator", data := .fields #[.ref l, .int 0 0] }).objs.size)))
        { s with heap := (s.heap.push { cls := .type "tuple_iterator", data := .fields #[.ref l, .int 0 0] }).push { cls := .type "enumerate", data := .fields #[.none, .bool false, .ref s.heap.objs.size, rawInt 0, .none, .none] } }) :=
  .of_wp fun prog w A R s h => by
    obtain ⟨hp, g, d, tk, os⟩ := s; obtain ⟨h1, h⟩ := h
    have hsub := PySem.sub_enumerate
    have q1 : ∀ {A' : Around} {E : Value → Shared → Prop} {Q : Value → Shared → Prop}, Q (.ref hp.objs.size) ⟨hp.push { cls := .type "tuple_iterator", data := .fields #[.ref l, .int 0 0] }, g, d, tk, os⟩ → wpAny (model prog w) A' (pyIter (.ref l)) Q E ⟨hp, g, d, tk, os⟩ :=
      fun q => (PySem.begins_tuple l items).iter prog w _ _ ⟨hp, g, d, tk, os⟩ _ h1 q
    wp_walk using q1
    refine wpAny_stack_any fun st => wpAny_pure ?_
    split
    · rename_i c _ _ _ _ _
      cases (c == Value.type "enumerate")
      · wp_walk using q1
        exact ⟨_, rfl, h⟩
      · wp_walk using q1
        exact ⟨_, rfl, h⟩
    · wp_walk using q1
      exact ⟨_, rfl, h⟩
theorem call_enumT {prog : Program} {w : World} {A : Around} {E : Value → Shared → Prop} {s : Shared} {l : Addr} {items : Array Value} {Q : Value → Shared → Prop} (hL : s.heap.IsTuple l items)
    (h : ∀ h', IsEnum h' (s.heap.objs.size + 1) s.heap.objs.size 0 .none → h'.IsTupleIter s.heap.objs.size l 0 → h'.objs.size = s.heap.objs.size + 2 → (∀ b o, s.heap.get? b = some o → h'.get? b = some o) → Q (.ref (s.heap.objs.size + 1)) { s with heap := h' }) :
    wpAny (model prog w) A (PySem.call (.type "enumerate") [.ref l]) Q E s := by
  refine PySem.callType_new PySem.F.called_enumerate (by decide) (PySem.F.typeCall_enumerate_1 _) (PySem.F.newCall_enumerate_1 _) (fun obj => PySem.F.args_object_init_2 obj _) PySem.F.entry_enumerate_new (meets_enumT l items) ⟨hL, ?_⟩
  have hz : (s.heap.push { cls := .type "tuple_iterator", data := .fields #[.ref l, .int 0 0] }).objs.size = s.heap.objs.size + 1 := Heap.size_push ..
  show _ ∧ _
  rw [hz]
  have he : IsEnum ((s.heap.push { cls := .type "tuple_iterator", data := .fields #[.ref l, .int 0 0] }).push { cls := .type "enumerate", data := .fields #[.none, .bool false, .ref s.heap.objs.size, rawInt 0, .none, .none] }) (s.heap.objs.size + 1) s.heap.objs.size 0 .none := by
    have := Heap.get?_push_size (s.heap.push { cls := .type "tuple_iterator", data := .fields #[.ref l, .int 0 0] }) (o := { cls := .type "enumerate", data := .fields #[.none, .bool false, .ref s.heap.objs.size, rawInt 0, .none, .none] }) rfl
    rw [hz] at this; exact this
  exact ⟨⟨_, he, rfl⟩, h _ he ⟨_, Heap.get?_push_of_some _ (Heap.get?_push_size _ rfl), rfl, rfl⟩ (by rw [Heap.size_push, hz]) fun b o x => Heap.get?_push_of_some _ (Heap.get?_push_of_some _ x)⟩
/-- enumerate(a tuple | a list) -/
def iEnumA (K : PySem.W.Frag) (ta : TA) : TI := fun σ H R => ta σ H fun vs H1 => ∃ a, vs = [.ref a] ∧ ((∃ xs, SqL K H1 a xs ∧ R (Ite K a) H1) ∨ ∃ xs, SqT K H1 a xs ∧ R (ItEt K a) H1)
theorem pi_enumA {X : Cx} {e : Expr} {ta : TA} {p pos tpos : Pos} {elts : List Expr} {kk : Nat} (hg : Gl X "enumerate") (hm : X.mg "enumerate" = none) (ha : PA X [e] ta) (hs : starEach [e] X.env = [(false, eval e X.env)] := by rfl) :
    PI X (.Tuple elts kk tpos) (.Call (.Name "enumerate" p) [e] [] pos) (iEnumA X.K ta) := by
  refine ⟨fun pins s σ H R I h => ?_⟩
  refine Call_ (ld_blt I hg hm boot_enumerate (PyProof.Rows.callWith_type1 (thn (ha.run pos pins s σ H _ I h) fun us s1 ⟨vs, H1, I1, r1, q1⟩ => ?_) hs rfl))
  obtain ⟨a, ex, q⟩ := q1
  subst ex
  cases r1 with
  | cons r rr =>
    cases rr
    cases r
    have fp : ∀ {h' : Heap}, (∀ b o, s1.heap.get? b = some o → h'.get? b = some o) → ∀ b ∈ [s1.heap.objs.size + 1, s1.heap.objs.size], FpOk X pins H1 b := fun {h'} hk b hb => by
      have e' : b = s1.heap.objs.size + 1 ∨ b = s1.heap.objs.size := by simpa using hb
      have hle : s1.heap.objs.size ≤ b := by
        rcases e' with z | z
        · rw [z]; exact Nat.le_add_right _ _
        · rw [z]; exact Nat.le_refl _
      exact I1.fpOk hle (I1.hok.fresh hle)
    rcases q with ⟨xs, hq, q⟩ | ⟨xs, hq, q⟩
    · obtain ⟨its, rv, p', hz⟩ := I1.list hq
      refine PySem.call_enumerate_list p'.isList fun h' he hit hsz hk => PySem.wpAny_pyIter_enum he ?_
      have I2 : Inv X pins σ H1 { s1 with heap := h' } := I1.kept (t' := s1.toks) hk
      exact ⟨s1.heap.objs.size + 1, [s1.heap.objs.size + 1, s1.heap.objs.size], _, _, H1, rfl, I2, turn_enum a (s1.heap.objs.size + 1) s1.heap.objs.size, ⟨⟨.none, he⟩, hit, Nat.succ_ne_self _⟩, fp hk, q⟩
    · obtain ⟨its, rv, ⟨ot, hot, hct, nt, hdt⟩, hz⟩ := I1.tuple hq
      have IT : s1.heap.IsTuple a its.toArray := ⟨ot, hot, hct, nt, hdt⟩
      have hlt := Heap.lt_size hot
      refine call_enumT IT fun h' he hit hsz hk => PySem.wpAny_pyIter_enum he ?_
      have I2 : Inv X pins σ H1 { s1 with heap := h' } := I1.kept (t' := s1.toks) hk
      exact ⟨s1.heap.objs.size + 1, [s1.heap.objs.size + 1, s1.heap.objs.size], _, _, H1, rfl, I2, turn_enumT a (s1.heap.objs.size + 1) s1.heap.objs.size, ⟨⟨.none, he⟩, hit, Nat.succ_ne_self _, Nat.ne_of_gt (Nat.lt_succ_of_lt hlt), Nat.ne_of_lt hlt⟩, fp hk, q⟩
theorem walk_enumT {K : PySem.W.Frag} {a : Addr} {xs : List V} (inj : ∀ H ys, SqT K H a xs → SqT K H a ys → ys = xs) : Walk (ItEt K a) xs.length (fun H => SqT K H a xs) (YPair (fun i => some (.int (i : Nat))) (fun i => xs[i]?)) := by
  refine ⟨fun i H hi g => ⟨xs, _, g, List.getElem?_eq_getElem hi⟩, fun H g => ⟨xs, g, rfl⟩, fun i H v H' hi g y => ?_⟩
  obtain ⟨T, x, e1, e2, e3, e4⟩ := y
  exact ⟨T, _, x, e1, e2, e3, rfl, e4 xs g⟩
end
section
variable {G : Ga} {W : L2.WX} {X : Cx}
def enumD (a : List D) : List (D × D) := a.zipIdx.map fun p => (D.int (p.2 : Nat), p.1)
theorem enumD_len (a : List D) : (enumD a).length = a.length := by simp [enumD]
theorem enumD_get {a : List D} {i : Nat} {d : D × D} (h : (enumD a)[i]? = some d) : d.1 = .int (i : Nat) ∧ a[i]? = some d.2 := by
  unfold enumD at h
  rw [List.getElem?_map, List.getElem?_zipIdx] at h
  cases z : a[i]? with
  | none => rw [z] at h; cases h
  | some x => rw [z] at h; simp at h; subst h; exact ⟨rfl, rfl⟩
def mItE (m : MA) : MI := fun ρ st => (m ρ st).bind fun xs st => match xs with
  | [.d (.lst a)] => .ok ⟨(enumD a).map fun d => Va.d (.tup [d.1, d.2]), none⟩ st
  | [.d (.tup a)] => .ok ⟨(enumD a).map fun d => Va.d (.tup [d.1, d.2]), none⟩ st
  | _ => .bad
theorem enum_rep {F0 : Hp} {vs : List V} {a : List D} (t : Reps G F0 vs a) : ∀ i d, (enumD a)[i]? = some d → ∀ x y, (fun i : Nat => some (V.int (i : Nat))) i = some x → (fun i : Nat => vs[i]?) i = some y → Rep G F0 x d.1 ∧ Rep G F0 y d.2 := by
  intro i d e x y hx hy
  obtain ⟨h1, h2⟩ := enumD_get e
  obtain ⟨v, hv, r⟩ := t.get h2
  dsimp only at hx hy
  rw [hv] at hy
  cases hx
  cases hy
  rw [h1]
  exact ⟨.int _, r⟩
theorem walkR_enumL {F0 : Hp} {ad0 : List Addr} {p : Addr} {vs : List V} {a : List D} (h1 : F0 p = some (.lst vs)) (t : Reps G F0 vs a) : WalkR G (Ite G.K p) F0 ad0 ⟨(enumD a).map fun d => Va.d (.tup [d.1, d.2]), none⟩ := by
  have wk := walk_enum (K := G.K) (a := p) (xs := vs)
  rw [show vs.length = (enumD a).length by rw [enumD_len, t.length]] at wk
  exact walkR_pair (ds := enumD a) _ wk (fun H F ad st s S => SqL.of (S.sub _ _ (s _ _ h1))) (enum_rep t)
theorem walkR_enumT {F0 : Hp} {ad0 : List Addr} {p : Addr} {vs : List V} {a : List D} (h1 : SqT G.K F0 p vs) (t : Reps G F0 vs a) : WalkR G (ItEt G.K p) F0 ad0 ⟨(enumD a).map fun d => Va.d (.tup [d.1, d.2]), none⟩ := by
  have wk : Walk (ItEt G.K p) vs.length (fun H => SqT G.K H p vs) (YPair (fun i => some (.int (i : Nat))) (fun i => vs[i]?)) := by
    refine ⟨fun i H hi g => ⟨vs, _, g, List.getElem?_eq_getElem hi⟩, fun H g => ⟨vs, g, rfl⟩, fun i H v H' hi g y => ?_⟩
    obtain ⟨T, x, e1, e2, e3, e4⟩ := y
    exact ⟨T, _, x, e1, e2, e3, rfl, e4 vs g⟩
  rw [show vs.length = (enumD a).length by rw [enumD_len, t.length]] at wk
  exact walkR_pair (ds := enumD a) _ wk (fun H F ad st s S => sqT_same S.sub (sqT_same s h1)) (enum_rep t)
theorem di_enum {tg s : Expr} {es : List Expr} {m : MA} (hK : X.K = G.K) (hp : ∀ {t : TA}, PA X es t → PI X tg s (iEnumA X.K t)) (h : DA G W X es m) : DI G W X tg s (mItE m) := by
  obtain ⟨t, p, sm⟩ := h
  refine ⟨_, hp p, ?_⟩
  rw [hK]
  intro σ ρ H F ad st R Re S h0
  refine simA_bind sm Re S h0 fun xs vs st1 H1 F1 ad1 _ R1 S1 rv h1 => ?_
  match xs, rv, h1 with
  | [], _, h2 => exact h2.elim
  | [.ref _], _, h2 => exact h2.elim
  | [.d x], .cons r .nil, h2 =>
    cases r with
    | @lst a ws ds q t => exact ⟨a, rfl, .inl ⟨ws, SqL.of (S1.sub _ _ q), fin_same S1 h2 _ (walkR_enumL q t)⟩⟩
    | @tup a ws ds q t => exact ⟨a, rfl, .inr ⟨ws, sqT_same S1.sub q, fin_same S1 h2 _ (walkR_enumT q t)⟩⟩
    | _ => exact h2.elim
  | .ref _ :: _ :: _, _, h2 => exact h2.elim
  | .d x :: _ :: _, _, h2 => cases x <;> exact h2.elim
end
/-! ints: & and >>, a >>= b -/
section
variable {G : Ga} {W : L2.WX} {X : Cx}
def oAnd1 : O2
  | .d (.int i), .d (.int j), st => if 0 ≤ i ∧ j = 1 then .ok (.d (.int (i % 2))) st else .bad
  | _, _, _ => .bad
def rAnd1 : R2 := fun x y H Q => ∃ n : Nat, x = .int (n : Int) ∧ y = .int 1 ∧ Q (.int ((n % 2 : Nat) : Int)) H
theorem sim_and1 : SimR2 G rAnd1 oAnd1 := by
  intro Wv x y dx dy H F ad st Q rx ry S h
  cases dx with
  | ref n => exact h.elim
  | d dx => cases dy with
    | ref n => cases dx <;> exact h.elim
    | d dy => cases dx with
      | int i => cases dy with
        | int j =>
          replace h : Po G Wv H F ad (QV G Q) (if 0 ≤ i ∧ j = 1 then .ok (.d (.int (i % 2))) st else .bad) := h
          split at h
          · rename_i e
            obtain ⟨h0, rfl⟩ := e
            cases rx
            cases ry
            obtain ⟨n, rfl⟩ := Int.eq_ofNat_of_zero_le h0
            refine ⟨n, rfl, rfl, ?_⟩
            have := fin_same S h (.int ((n : Int) % 2)) (.int _)
            rw [show (((n % 2 : Nat) : Nat) : Int) = (n : Int) % 2 by omega]
            exact this
          · exact h.elim
        | _ => exact h.elim
      | _ => exact h.elim
/-- name op= e -/
def mAug (i : Nat) (f : O2) (e : ME) : MS := fun ρ st => match ρ[i]? with
  | some (some x) => outE (e ρ st) ρ fun y st => outE (f (strip x) y st) ρ fun z st => .nx (ρ.set i (some z)) st
  | _ => .bad
theorem ds_aug {s : Stmt} {e : Expr} {m : ME} {i : Nat} {r : R2} {f : O2} (hs : G.Stb) (hr : SimR2 G r f) (hp : ∀ {t : TE}, PE X e t → PS X s (tAug i t r)) (h : DE G W X e m) : DS G W X s (mAug i f m) := by
  obtain ⟨t, p, sm⟩ := h
  refine ⟨_, hp p, ?_⟩
  intro σ ρ H F ad st D R S h
  unfold mAug at h
  cases z : ρ[i]? with
  | none => rw [z] at h; exact h.elim
  | some o =>
    cases o with
    | none => rw [z] at h; exact h.elim
    | some x =>
      rw [z] at h
      obtain ⟨v, hv, rv⟩ := R.at_ i x z
      refine ⟨v, hv, ?_⟩
      refine simE_out sm R S h fun y u st1 H1 F1 ad1 e1 R1 S1 ru h1 => ?_
      have rv1 := strip_ok (rv.ext e1)
      refine hr (fun c d H' => W c d σ H') v u (strip x) y H1 F1 ad1 st1 _ rv1 ru S1 ?_
      revert h1
      generalize f (strip x) y st1 = o
      intro h1
      cases o with
      | bad => exact h1
      | er c fs st2 => exact fun H' F' ad' cls d e S' q => h1 H' F' ad' σ cls d e S' (R1.ext e) q
      | ok w st2 => exact fun H2 F2 ad2 e2 S2 w' rw' => h1 H2 F2 ad2 _ e2 S2 ((R1.ext e2).set hs rw')
def oHalf : O2
  | .d (.int i), .d (.int j), st => if j = 1 then .ok (.d (.int (i / 2))) st else .bad
  | _, _, _ => .bad
def rHalf : R2 := fun x y H Q => ∃ i : Int, x = .int i ∧ y = .int 1 ∧ Q (.int (i / 2)) H
theorem sim_half : SimR2 G rHalf oHalf := by
  intro Wv x y dx dy H F ad st Q rx ry S h
  cases dx with
  | ref n => exact h.elim
  | d dx => cases dy with
    | ref n => cases dx <;> exact h.elim
    | d dy => cases dx with
      | int i => cases dy with
        | int j =>
          replace h : Po G Wv H F ad (QV G Q) (if j = 1 then .ok (.d (.int (i / 2))) st else .bad) := h
          split at h
          · rename_i e
            subst e
            cases rx
            cases ry
            exact ⟨i, rfl, rfl, fin_same S h _ (.int _)⟩
          · exact h.elim
        | _ => exact h.elim
      | _ => exact h.elim
end

/-! M22: tuple * int; x[::-1]; list.clear -/
section
open PySem.Spec PyProof.Rows AutoSeq1
theorem tup_mul1 (l : Addr) (items : Array Value) (n : Nat) (dd : Option Addr) (sl : Array (Option Value)) (x : Int) (u : Tok) (c0 : (decide (x < -(2 ^ 63)) || decide (x ≥ 2 ^ 63)) = false) (c1 : (items.isEmpty || x == 1) = true) :
    Meets (Builtin.«tuple.__mul__» ⟨[.ref l, .int x u], []⟩) (fun _ R s => s.heap.get? l = some { cls := .type "tuple", dict := dd, data := .seq items n, slots := sl } ∧ R (.ok (.ret (Value.ref l))) s) :=
  .of_wp fun prog w A R s h => by
    obtain ⟨hp, g, d, tk, os⟩ := s
    obtain ⟨hl, h⟩ := h
    have f1 := AutoSeq1.idx_int
    wp_walk using wpAny_loadPart' hl
    repeat (first
      | (refine wpAny_ite_false (decide_eq_false (by rw [c0]; exact Bool.false_ne_true)) ?_; wp_walk using wpAny_loadPart' hl)
      | (refine wpAny_ite_true (decide_eq_true (by rw [c1])) ?_; wp_walk using wpAny_loadPart' hl))
    exact ⟨_, rfl, h⟩
theorem tup_mul0 (l : Addr) (items : Array Value) (n : Nat) (dd : Option Addr) (sl : Array (Option Value)) (x : Int) (u : Tok) (c0 : (decide (x < -(2 ^ 63)) || decide (x ≥ 2 ^ 63)) = false) (c1 : (items.isEmpty || x == 1) = false) (c2 : (decide (x ≤ 0) || items.isEmpty) = true) :
    Meets (Builtin.«tuple.__mul__» ⟨[.ref l, .int x u], []⟩) (fun _ R s => s.heap.get? l = some { cls := .type "tuple", dict := dd, data := .seq items n, slots := sl } ∧ R (.ok (.ret (Value.ref s.heap.objs.size))) { s with heap := s.heap.push { cls := Value.type "tuple", data := Data.seq #[] }, toks := s.toks }) :=
  .of_wp fun prog w A R s h => by
    obtain ⟨hp, g, d, tk, os⟩ := s
    obtain ⟨hl, h⟩ := h
    have f1 := AutoSeq1.idx_int
    wp_walk using wpAny_loadPart' hl
    repeat (first
      | (refine wpAny_ite_false (decide_eq_false (by rw [c0]; exact Bool.false_ne_true)) ?_; wp_walk using wpAny_loadPart' hl)
      | (refine wpAny_ite_false (decide_eq_false (by rw [c1]; exact Bool.false_ne_true)) ?_; wp_walk using wpAny_loadPart' hl)
      | (refine wpAny_ite_true (decide_eq_true (by rw [c2])) ?_; wp_walk using wpAny_loadPart' hl))
    exact ⟨_, rfl, h⟩
/-- tuple * int, any int that is not great -/
def rTm (K : PySem.W.Frag) : R2 := fun x y H Q => ∃ l k xs, x = .ref l ∧ y = .int k ∧ SqT K H l xs ∧ -1000 ≤ k ∧ k ≤ 1000 ∧ xs.length ≤ 1000 ∧ (((xs = [] ∨ k = 1) ∧ Q (.ref l) H) ∨ (xs ≠ [] ∧ k ≤ 0 ∧ ∀ p, H p = none → Q (.ref p) (upd H p (.tup []))) ∨ (xs ≠ [] ∧ 2 ≤ k ∧ ∀ p, H p = none → Q (.ref p) (upd H p (.tup (List.replicate k.toNat xs).flatten))))
theorem op_tm {X : Cx} : OpR X (binaryOp .Mult) (rTm X.K) := by
  intro pins s σ H x y v u Q I rx ry h
  obtain ⟨l, k, xs, rfl, rfl, hT, k1, k2, hz, h⟩ := h
  rcases h with ⟨hc, q⟩ | ⟨hne, hk, q⟩ | ⟨hne, hk, q⟩
  · cases rx
    obtain ⟨t, rfl⟩ := ry
    obtain ⟨its, r, ⟨⟨cls, dd, data, sl⟩, ho, hcl, n, hd⟩, hs⟩ := I.tuple hT
    simp only at hcl hd
    subst hcl hd
    have c0 : (decide (k < -(2 ^ 63)) || decide (k ≥ 2 ^ 63)) = false := by rw [decide_eq_false (by omega), decide_eq_false (by omega)] <;> rfl
    have c1 : (its.toArray.isEmpty || k == 1) = true := by
      rcases hc with e | e
      · subst e
        have : its = [] := List.eq_nil_of_length_eq_zero (by rw [← r.length]; rfl)
        subst this
        rfl
      · subst e
        rw [beq_self_eq_true, Bool.or_true]
    exact wpAny_binaryOp_repeat_ref (T := "tuple") (U := "int") (by decide) ⟨_, ho, rfl⟩ (fun s' => typeIs_int s' k t) noFill_tuple_mul F.fills_int_mul F.slot_int_rmul repeat_tuple F.slot_int_index.lookup
      (call_meets F.slot_int_rmul (typeIs_int s k t) F.entry_int_rmul (F.args_int_rmul_2 _ _) (int_rmul_tuple k t l its.toArray n dd sl)
        ⟨ho, rfl, ⟨_, ho, rfl⟩, call_meets F.slot_tuple_mul ⟨_, ho, rfl⟩ F.entry_tuple_mul (F.args_tuple_mul_2 _ _) (tup_mul1 l its.toArray n dd sl k t c0 c1) ⟨ho, ⟨.ref l, H, I, rfl, q⟩⟩⟩)
  · cases rx
    obtain ⟨t, rfl⟩ := ry
    obtain ⟨its, r, ⟨⟨cls, dd, data, sl⟩, ho, hcl, n, hd⟩, hs⟩ := I.tuple hT
    simp only at hcl hd
    subst hcl hd
    have hi : its.toArray.isEmpty = false := by
      cases its with
      | nil => exact absurd (List.eq_nil_of_length_eq_zero (by rw [r.length]; rfl)) hne
      | cons a b => rfl
    have c0 : (decide (k < -(2 ^ 63)) || decide (k ≥ 2 ^ 63)) = false := by rw [decide_eq_false (by omega), decide_eq_false (by omega)] <;> rfl
    have c1 : (its.toArray.isEmpty || k == 1) = false := by
      rw [hi, Bool.false_or]
      exact beq_eq_false_iff_ne.mpr (by omega)
    have c2 : (decide (k ≤ 0) || its.toArray.isEmpty) = true := by rw [decide_eq_true hk, Bool.true_or]
    refine wpAny_binaryOp_repeat_ref (T := "tuple") (U := "int") (by decide) ⟨_, ho, rfl⟩ (fun s' => typeIs_int s' k t) noFill_tuple_mul F.fills_int_mul F.slot_int_rmul repeat_tuple F.slot_int_index.lookup
      (call_meets F.slot_int_rmul (typeIs_int s k t) F.entry_int_rmul (F.args_int_rmul_2 _ _) (int_rmul_tuple k t l its.toArray n dd sl)
        ⟨ho, rfl, ⟨_, ho, rfl⟩, call_meets F.slot_tuple_mul ⟨_, ho, rfl⟩ F.entry_tuple_mul (F.args_tuple_mul_2 _ _) (tup_mul0 l its.toArray n dd sl k t c0 c1 c2) ⟨ho, ?_⟩⟩)
    refine ⟨.ref s.heap.objs.size, _, I.laid (t' := s.toks) (o := .tup []) (fun b ob q => Heap.get?_push_of_some _ q) (Nat.le_refl _) ?_, rfl, q _ (I.hok.fresh (Nat.le_refl _))⟩
    exact ⟨by show 0 ≤ sizeLine; decide, [], .nil, IsTup.new _ _⟩
  · exact op_repT pins s σ H (.ref l) (.int k) v u Q I rx ry ⟨l, k, xs, rfl, rfl, hT, hne, hk, k2, hz, q⟩
end
section
variable {G : Ga} {W : L2.WX} {X : Cx}
def oMulT : O2
  | .d (.tup a), .d (.int j), st => if -1000 ≤ j ∧ j ≤ 1000 ∧ a.length ≤ 1000 then .ok (.d (.tup (List.replicate j.toNat a).flatten)) st else .bad
  | _, _, _ => .bad
theorem op_tm' (hK : X.K = G.K) : OpR X (binaryOp .Mult) (rTm G.K) := by rw [← hK]; exact op_tm
theorem sim_mulT : SimR2 G (rTm G.K) oMulT := by
  intro Wv x y dx dy H F ad st Q rx ry S h
  cases dx with
  | ref n => exact h.elim
  | d dx => cases dy with
    | ref n => cases dx <;> exact h.elim
    | d dy => cases dx with
      | tup a => cases dy with
        | int j =>
          replace h : Po G Wv H F ad (QV G Q) (if -1000 ≤ j ∧ j ≤ 1000 ∧ a.length ≤ 1000 then .ok (.d (.tup (List.replicate j.toNat a).flatten)) st else .bad) := h
          split at h
          · rename_i e
            obtain ⟨h1, h2, h3⟩ := e
            have rx' := rx
            cases rx with
            | @tup p vs ds q t =>
              cases ry
              refine ⟨p, j, vs, rfl, rfl, sqT_same S.sub q, h1, h2, by rw [t.length]; exact h3, ?_⟩
              by_cases he : vs = [] ∨ j = 1
              · refine .inl ⟨he, fin_same S h _ ?_⟩
                rcases he with e | e
                · subst e
                  cases t
                  have : (List.replicate j.toNat ([] : List D)).flatten = [] := by simp
                  rw [this]
                  exact rx'
                · subst e
                  have : (List.replicate (1 : Int).toNat a).flatten = a := by simp
                  rw [this]
                  exact rx'
              · have hne : vs ≠ [] := fun z => he (.inl z)
                by_cases hj : j ≤ 0
                · refine .inr (.inl ⟨hne, hj, fun p hp => fin_new S hp ?_ h⟩)
                  rw [show j.toNat = 0 by omega]
                  exact .tup (SqT.of upd_same) .nil
                · refine .inr (.inr ⟨hne, by have : j ≠ 1 := fun z => he (.inr z); omega, fun p hp => fin_new S hp ?_ h⟩)
                  exact .tup (SqT.of upd_same) ((t.same (ext_new S hp).fz).rep _)
          · exact h.elim
        | _ => exact h.elim
      | _ => exact h.elim
end
/-! x[::-1] -/
section
open PySem.Spec PyProof.Rows
theorem adj_rev (n : Nat) : Builtin.Slice.sliceAdjust none none (-1) (n : Int) = ((n : Int) - 1, -1) := by
  unfold Builtin.Slice.sliceAdjust
  simp
theorem places_rev (n : Nat) : Builtin.Slice.slicePlaces ((n : Int) - 1) (-1) (-1) = n := by
  unfold Builtin.Slice.slicePlaces
  simp
  try omega
theorem fm_all {α : Type} : ∀ (l : List α) (f : Nat → Option α), (∀ m, m < l.length → f m = l[m]?) → (List.range l.length).filterMap f = l
  | [], _, _ => rfl
  | a :: l, f, h => by
    have h0 : f 0 = some a := h 0 (by simp)
    have ht := fm_all l (fun m => f (m + 1)) fun m hm => by rw [h (m + 1) (by simpa using hm)]; simp
    rw [List.length_cons, List.range_succ_eq_map, List.filterMap_cons, h0, List.filterMap_map]
    exact congrArg (a :: ·) ht
theorem pick_rev (xs : Array Value) : ((List.range xs.size).filterMap fun (m : Nat) => xs[((xs.size : Int) - 1 + (m : Int) * (-1)).toNat]?).toArray = xs.toList.reverse.toArray := by
  have := fm_all xs.toList.reverse (fun m => xs[((xs.size : Int) - 1 + (m : Int) * (-1)).toNat]?) fun m hm => by
    have hm : m < xs.size := by simpa using hm
    rw [show ((xs.size : Int) - 1 + (m : Int) * (-1)).toNat = xs.size - 1 - m by omega, List.getElem?_reverse (by simpa using hm)]
    simp
  rw [List.length_reverse, Array.length_toList] at this
  rw [this]
section
variable {prog : Program} {w : World} {A : Around} {E : Value → Shared → Prop} {s : Shared}
theorem getItem_tuple_rev {t sl : Addr} {items : Array Value} {vl vu vs : Value} {Q : Value → Shared → Prop} (ht : IsTup s.heap t items) (hs : s.heap.IsSliceOf sl vl vu vs) (pl : IsPart vl none) (pu : IsPart vu none) (ps : IsPart vs (some (-1))) (hz : items.size ≤ sizeLine)
    (h : Q (.ref s.heap.objs.size) { s with heap := s.heap.push { cls := .type "tuple", data := .seq items.toList.reverse.toArray } }) : wpAny (model prog w) A (getItem (.ref t) (.ref sl)) Q E s := by
  obtain ⟨os, hos, hcs, hds⟩ := id hs
  have hTs : s.TypeIs (.ref sl) "slice" := ⟨os, hos, hcs⟩
  unfold getItem
  try with_reducible refine wpAny_holding ?_
  first | refine wpAny_bind (wpAny_pure ?_) | skip
  refine wpAny_bind (wpAny_sequenceKey ht.typeIs (by decide) ?_)
  refine wpAny_bind (wpAny_callSpecial?_slot (name := Str.ofString "__getitem__") ht.typeIs PyProof.Rows.slot_tuple_getitem (wpAny_call_entry PyProof.Rows.slot_tuple_getitem ht.typeIs entry_tuple_getitem ?_ (args_tuple_getitem _ _)))
  show wpAny _ _ (Builtin.Tuple.tupleItemsOf (.ref t) >>= _) _ _ s
  refine wpAny_bind (tupleItemsOf_ ht ?_)
  refine wpAny_bind (wpAny_typeOf hTs ?_)
  rw [if_pos (by decide)]
  have ap : ∀ {Q' : Int × Int × Nat → Shared → Prop} {E'}, Q' ((items.size : Int) - 1, -1, items.size) s → wpAny (model prog w) A.in1 (Builtin.Slice.sliceApplied (.ref sl) (pure (items.size : Int))) Q' E' s := by
    intro Q' E' q
    unfold Builtin.Slice.sliceApplied Builtin.Slice.sliceFields
    refine wpAny_bind (wpAny_bind (wpAny_field hos hds (x := vl) rfl (wpAny_bind (wpAny_field hos hds (x := vu) rfl (wpAny_bind (wpAny_field hos hds (x := vs) rfl (wpAny_pure ?_)))))))
    refine wpAny_bind (HT.slicePart_ ps ?_)
    show wpAny _ _ (if ((-1 : Int) == 0) = true then _ else _) _ _ s
    rw [if_neg (by decide)]
    refine wpAny_bind (HT.slicePart_ pl (wpAny_bind (HT.slicePart_ pu (wpAny_bind (wpAny_pure ?_)))))
    show wpAny _ _ (match Builtin.Slice.sliceAdjust none none (-1) (items.size : Int) with | (lo, hi) => pure (lo, (-1 : Int), Builtin.Slice.slicePlaces lo hi (-1))) _ _ s
    rw [adj_rev]
    show wpAny _ _ (pure (((items.size : Int) - 1), (-1 : Int), Builtin.Slice.slicePlaces ((items.size : Int) - 1) (-1) (-1))) _ _ s
    rw [places_rev]
    exact wpAny_pure q
  refine wpAny_bind (ap ?_)
  have hno : (((items.size : Int) - 1) == 0 && (-1 : Int) == 1 && items.size == items.size) = false := by simp
  show wpAny _ _ (if (((items.size : Int) - 1) == 0 && (-1 : Int) == 1 && items.size == items.size) = true then _ else _) _ _ s
  rw [if_neg (by rw [hno]; exact Bool.false_ne_true)]
  refine wpAny_bind (m := Builtin.Tuple.tupleExact _) ?_
  rw [pick_rev]
  exact wpAny_newObj_type (wpAny_pure ⟨_, rfl, wpAny_pure h⟩) (by show items.toList.reverse.toArray.size ≤ sizeLine; simpa using hz)
end
variable {X : Cx}
def tRevA (K : PySem.W.Frag) (te : TE) : TE := fun σ H Q => te σ H fun x H1 => ∃ a xs, x = .ref a ∧ ((SqL K H1 a xs ∧ ∀ p, H1 p = none → Q (.ref p) (upd H1 p (.lst xs.reverse))) ∨ (SqT K H1 a xs ∧ ∀ p, H1 p = none → Q (.ref p) (upd H1 p (.tup xs.reverse))))
theorem pe_revA {e : Expr} {te : TE} {k : Nat} {p1 p2 p3 pos : Pos} (he : PE X e te) : PE X (.Subscript e (.Slice none none (some (.UnaryOp .USub (.Constant (.int 1) k p1) p2)) p3) pos) (tRevA X.K te) := by
  refine ⟨fun pins s σ H Q I h => ?_⟩
  refine Subscript_ (thn (he.run pins s σ H _ I h) fun v s1 ⟨x, H1, I1, r1, q1⟩ => ?_)
  obtain ⟨a, xs, ex, q⟩ := q1
  subst ex
  cases r1
  have hst : PO X (some (.UnaryOp .USub (.Constant (.int 1) k p1) p2)) (tPart (tUn (rU fun i => .int (-i)) (tC (.int 1)))) := po_some (pe_un un_neg pe_int)
  refine wpAny_Slice (thn (po_none.run pins s1 σ H1 (fun o H2 => o = none ∧ H2 = H1) I1 ⟨rfl, rfl⟩) fun vl s2 ⟨l, H2, I2, pl, el, e2⟩ => ?_)
  subst el e2
  refine thn (po_none.run pins s2 σ H2 (fun o H3 => o = none ∧ H3 = H2) I2 ⟨rfl, rfl⟩) fun vu s3 ⟨u, H3, I3, pu, eu, e3⟩ => ?_
  subst eu e3
  refine thn (hst.run pins s3 σ H3 (fun o H4 => o = some (-1) ∧ H4 = H3) I3 ⟨1, rfl, -1, rfl, rfl, rfl⟩) fun vs s4 ⟨o, H4, I4, ps, eo, e4⟩ => ?_
  subst eo e4
  have I5 : Inv X pins σ H4 { s4 with heap := s4.heap.push { cls := .type "slice", data := .fields #[vl, vu, vs] } } := I4.kept (t' := s4.toks) fun b ob q => Heap.get?_push_of_some _ q
  show wpAny (model X.prog X.w) X.A (subscriptTail e (.Slice none none (some (.UnaryOp .USub (.Constant (.int 1) k p1) p2)) p3) (.ref a) (.ref s4.heap.objs.size)) (EP X pins σ Q) X.xe { s4 with heap := s4.heap.push { cls := .type "slice", data := .fields #[vl, vu, vs] } }
  rcases q with ⟨hx, q⟩ | ⟨hx, q⟩
  · obtain ⟨its, r, ht, hz⟩ := I5.list hx
    have hlen := r.length
    refine tail_any (ops := [.ref a, .ref s4.heap.objs.size]) ht.isList.typeIs (PySem.slot_list_getitem.lookup) ?_ (by with_unfolding_all rfl)
    refine wpAny_getItem_list_slice ht.isList (Heap.IsSliceOf.new _ vl vu vs) pl pu ps (by decide) ?_ (by rw [List.size_toArray]; omega)
    rw [PySem.W.krv_pick]
    refine ⟨.ref _, _, I5.laid (t' := s4.toks) (o := .lst xs.reverse) (fun b ob q => Heap.get?_push_of_some _ q) (Nat.le_refl _) ?_, rfl, q _ (I5.hok.fresh (Nat.le_refl _))⟩
    exact ⟨by rw [List.length_reverse]; exact hz, _, 0, r.reverse, Heap.get?_push_size _ rfl⟩
  · obtain ⟨its, r, ht, hz⟩ := I5.tuple hx
    have hlen := r.length
    refine tail_any (ops := [.ref a, .ref s4.heap.objs.size]) ht.typeIs (PyProof.Rows.slot_tuple_getitem.lookup) ?_ (by with_unfolding_all rfl)
    refine getItem_tuple_rev ht (Heap.IsSliceOf.new _ vl vu vs) pl pu ps (by rw [List.size_toArray]; omega) ?_
    refine ⟨.ref _, _, I5.laid (t' := s4.toks) (o := .tup xs.reverse) (fun b ob q => Heap.get?_push_of_some _ q) (Nat.le_refl _) ?_, rfl, q _ (I5.hok.fresh (Nat.le_refl _))⟩
    exact ⟨by rw [List.length_reverse]; exact hz, _, r.reverse, IsTup.new _ _⟩
end
section
variable {G : Ga} {W : L2.WX} {X : Cx}
theorem Reps.reverse {F : Hp} : ∀ {vs : List V} {ds : List D}, Reps G F vs ds → Reps G F vs.reverse ds.reverse
  | _, _, .nil => .nil
  | _, _, .cons h t => by rw [List.reverse_cons, List.reverse_cons]; exact (Reps.reverse t).append (.cons h .nil)
def oRev : O1
  | .d (.lst a), st => .ok (.d (.lst a.reverse)) st
  | .d (.tup a), st => .ok (.d (.tup a.reverse)) st
  | _, _ => .bad
theorem de_rev {e : Expr} {k : Nat} {p1 p2 p3 pos : Pos} {m : ME} (hK : X.K = G.K) (he : DE G W X e m) : DE G W X (.Subscript e (.Slice none none (some (.UnaryOp .USub (.Constant (.int 1) k p1) p2)) p3) pos) (mUn oRev m) := by
  obtain ⟨t, p, s⟩ := he
  refine ⟨_, pe_revA p, ?_⟩
  rw [hK]
  intro σ ρ H F ad st Q R S h
  refine simE_bind s R S h fun x v st1 H1 F1 ad1 _ R1 S1 rv h1 => ?_
  cases x with
  | ref n => exact h1.elim
  | d x =>
    cases rv with
    | @lst a vs ds q t => exact ⟨a, vs, rfl, .inl ⟨SqL.of (S1.sub _ _ q), fun p hp => fin_new S1 hp (.lst upd_same (t.reverse.same (ext_new S1 hp).fz)) h1⟩⟩
    | @tup a vs ds q t => exact ⟨a, vs, rfl, .inr ⟨sqT_same S1.sub q, fun p hp => fin_new S1 hp (.tup (SqT.of upd_same) (t.reverse.same (ext_new S1 hp).fz)) h1⟩⟩
    | _ => exact h1.elim
/-! xs.clear() -/
def oClear : OM
  | .ref n, [], st => match st[n]? with
    | some (.lst _) => .ok (.d .non) (st.set n (.lst []))
    | _ => .bad
  | _, _, _ => .bad
theorem sim_clear : SimM G rClear oClear := by
  intro Wv x dx vs ds H F ad st Q rx rvs S h
  cases dx with
  | d x => cases ds <;> exact h.elim
  | ref n =>
    cases rvs with
    | cons _ _ => exact h.elim
    | nil =>
      obtain ⟨a, ha, rfl⟩ := rx
      replace h : Po G Wv H F ad (QV G Q) (match st[n]? with
        | some (.lst _) => .ok (.d .non) (st.set n (.lst []))
        | _ => .bad) := h
      cases z : st[n]? with
      | none => rw [z] at h; exact h.elim
      | some o =>
        rw [z] at h
        cases o with
        | lst xs =>
          obtain ⟨vs, h1, h2⟩ := S.get ha z
          refine ⟨a, vs, rfl, rfl, h1, ?_⟩
          exact h _ _ _ (ext_mut S ha) (S.mut (m := .lst []) ha ⟨[], upd_same, .nil⟩) _ .non
        | _ => exact h.elim
/-- o.m(), m a method of lists -/
def mLM0 (f : OM) (o : ME) : ME := fun ρ st => (o ρ st).bind fun x st => if isLst x st then f x [] st else .bad
theorem de_lm0 {r : V → List V → Hp → VK → Prop} {f : OM} {o s : Expr} {mo : ME} (hK : X.K = G.K) (hp : ∀ {to : TE}, PE X o to → PE X s (tBM0 X.K "list" r to)) (hs : SimM G r f) (ho : DE G W X o mo) : DE G W X s (mLM0 f mo) := by
  obtain ⟨to, po, so⟩ := ho
  refine ⟨_, hp po, ?_⟩
  rw [hK]
  intro σ ρ H F ad st Q R S h
  refine simE_bind so R S h fun x v st1 H1 F1 ad1 _ R1 S1 rv h1 => ?_
  cases z : isLst x st1 with
  | false => rw [z] at h1; exact h1.elim
  | true =>
    rw [z] at h1
    exact ⟨isLst_ok S1 rv z, hs _ v x [] [] H1 F1 ad1 st1 Q rv .nil S1 h1⟩
/-! a module's int -/
theorem de_gint {x : String} {i : Int} {pos : Pos} (hg : Gl X (Str.ofString x)) (hm : ∃ t, X.mg (Str.ofString x) = some (.int i t)) (hd : (Str.ofString x == ("__debug__" : Str)) = false := by decide) : DE G W X (.Name (Str.ofString x) pos) (mC (.int i)) := by
  obtain ⟨t, e⟩ := hm
  exact de_c (pe_glob (v := .int i) hg e ⟨t, rfl⟩ hd) fun _ => .int i
end

/-! M23: a call whose new cells are frozen behind it; star parameters; star calls; classmethods -/
section
variable {G : Ga} {W : L2.WX} {X : Cx}
/-- resolved, new cells alone -/
def rsvN (N : Nat) (st : Sto) : Nat → Va → Option D
  | _, .d x => some x
  | 0, .ref _ => none
  | k + 1, .ref n => if n < N then none else match st[n]? with
    | some (.lst xs) => (mapO (rsvN N st k) xs).map D.lst
    | some (.obj c fs) => (mapO (fun p => (rsvN N st k p.2).map fun y => (p.1, y)) fs).map (D.obj c)
    | _ => none
@[simp] theorem rsvN_d {N : Nat} {st : Sto} {k : Nat} {x : D} : rsvN N st k (.d x) = some x := by cases k <;> rfl
def oldV (N : Nat) : Va → Bool
  | .d _ => true
  | .ref n => decide (n < N)
def oldO (N : Nat) : MO → Bool
  | .lst xs => xs.all (oldV N)
  | .obj _ fs => fs.all fun p => oldV N p.2
  | .dct _ => false
def trimF (f : MF) : MF := fun ds st => match f ds st with
  | .ok v st1 => (match rsvN st.length st1 (st1.length + 1) v with
    | some x => if st.length ≤ st1.length ∧ (st1.take st.length).all (oldO st.length) = true then .ok (.d x) (st1.take st.length) else .bad
    | none => .bad)
  | .er c fs st1 => .er c fs st1
  | .bad => .bad
theorem frz_same {H F : Hp} {ad zs : List Addr} {st : Sto} (S : SR G H F (ad ++ zs) st) : Same F (frzA H F zs) := fun b o h => by
  unfold frzA
  rw [if_neg (fun z => by rw [S.dis b (List.mem_append_right _ z)] at h; cases h)]
  exact h
theorem rsvN_ok {N : Nat} {H F : Hp} {ad zs : List Addr} {st : Sto} (S : SR G H F (ad ++ zs) st) (hN : ad.length = N) : ∀ {k : Nat} {v : V} {x : Va} {y : D}, RepV G F (ad ++ zs) v x → rsvN N st k x = some y → Rep G (frzA H F zs) v y
  | k, v, .d x, y, r, e => by
    rw [rsvN_d] at e
    cases e
    exact Rep.same (frz_same S) r
  | 0, v, .ref n, y, r, e => by cases e
  | k + 1, v, .ref n, y, r, e => by
    obtain ⟨a, ha, rfl⟩ := r
    have e : (if n < N then none else match st[n]? with
      | some (.lst xs) => (mapO (rsvN N st k) xs).map D.lst
      | some (.obj c fs) => (mapO (fun p => (rsvN N st k p.2).map fun y => (p.1, y)) fs).map (D.obj c)
      | _ => none) = some y := e
    split at e
    · cases e
    · rename_i hn
      have hz : a ∈ zs := by
        rw [List.getElem?_append_right (by omega)] at ha
        exact List.mem_of_getElem? ha
      have hm : frzA H F zs a = H a := if_pos hz
      cases z : st[n]? with
      | none => rw [z] at e; cases e
      | some o =>
        rw [z] at e
        cases o with
        | lst xs =>
          replace e : (mapO (rsvN N st k) xs).map D.lst = some y := e
          obtain ⟨vs, h1, h2⟩ := S.get ha z
          cases zz : mapO (rsvN N st k) xs with
          | none => rw [zz] at e; cases e
          | some ys =>
            rw [zz] at e
            cases e
            exact .lst (by rw [hm]; exact h1) (paired_reps (mapO_ok (f := rsvN N st k) (R' := Rep G (frzA H F zs)) (fun c a b r e => rsvN_ok S hN r e) h2 zz))
        | obj c fs =>
          replace e : (mapO (fun p => (rsvN N st k p.2).map fun y => (p.1, y)) fs).map (D.obj c) = some y := e
          obtain ⟨hc, dx, vfs, h1, h2⟩ := S.get ha z
          cases zz : mapO (fun p => (rsvN N st k p.2).map fun y => (p.1, y)) fs with
          | none => rw [zz] at e; cases e
          | some ys =>
            rw [zz] at e
            cases e
            refine .obj hc (by rw [hm]; exact h1) (paired_repf (mapO_ok (fun c a b r e => ?_) h2 zz))
            cases z3 : rsvN N st k a.2 with
            | none => rw [z3] at e; cases e
            | some y =>
              rw [z3] at e
              cases e
              exact ⟨r.1, rsvN_ok S hN r.2 z3⟩
        | dct _ => cases e
theorem old_rep {N : Nat} {H F : Hp} {ad zs : List Addr} {st : Sto} (S : SR G H F (ad ++ zs) st) (hN : ad.length = N) {v : V} {x : Va} (r : RepV G F (ad ++ zs) v x) (h : oldV N x = true) : RepV G (frzA H F zs) ad v x := by
  cases x with
  | d x => exact Rep.same (frz_same S) r
  | ref n =>
    obtain ⟨a, ha, rfl⟩ := r
    have hn : n < N := of_decide_eq_true h
    rw [List.getElem?_append_left (by omega)] at ha
    exact ⟨a, ha, rfl⟩
theorem SR.trim {H F : Hp} {ad zs : List Addr} {st : Sto} {N : Nat} (S : SR G H F (ad ++ zs) st) (hN : ad.length = N) (ho : (st.take N).all (oldO N) = true) : SR G H (frzA H F zs) ad (st.take N) := by
  have hl : ad.length + zs.length = st.length := by rw [← List.length_append]; exact S.len
  have nin : ∀ a ∈ ad, a ∉ zs := fun a h z => (List.nodup_append.mp S.nd).2.2 a h a z rfl
  refine ⟨fun b o h => ?_, by rw [List.length_take]; omega, (List.nodup_append.mp S.nd).1, fun a h => ?_, fun n a o ha h => ?_⟩
  · unfold frzA at h
    split at h
    · exact h
    · exact S.sub b o h
  · unfold frzA
    rw [if_neg (nin a h)]
    exact S.dis a (List.mem_append_left _ h)
  · have hn : n < ad.length := (List.getElem?_eq_some_iff.mp ha).1
    rw [List.getElem?_take_of_lt (by omega)] at h
    have hall := List.all_eq_true.mp ho o (List.mem_of_getElem? (i := n) (by rw [List.getElem?_take_of_lt (by omega)]; exact h))
    have hz := S.ob n a o (by rw [List.getElem?_append_left hn]; exact ha) h
    cases o with
    | lst ds =>
      obtain ⟨vs, h1, h2⟩ := hz
      refine ⟨vs, h1, ?_⟩
      replace hall : ds.all (oldV N) = true := hall
      clear h h1
      induction h2 with
      | nil => exact .nil
      | cons r t ih =>
        rw [List.all_cons, Bool.and_eq_true] at hall
        exact .cons (old_rep S hN r hall.1) (ih hall.2)
    | obj c fs =>
      obtain ⟨hc, dx, vfs, h1, h2⟩ := hz
      refine ⟨hc, dx, vfs, h1, ?_⟩
      replace hall : fs.all (fun p => oldV N p.2) = true := hall
      clear h h1
      induction h2 with
      | nil => exact .nil
      | cons r t ih =>
        rw [List.all_cons, Bool.and_eq_true] at hall
        exact .cons ⟨r.1, old_rep S hN r.2 hall.1⟩ (ih hall.2)
    | dct _ => exact hz.elim
theorem ext_trim {H0 F0 H F : Hp} {ad zs : List Addr} {st : Sto} (S : SR G H F (ad ++ zs) st) (E : Ext H0 F0 ad H F (ad ++ zs)) : Ext H0 F0 ad H (frzA H F zs) ad := by
  have nin : ∀ a ∈ ad, a ∉ zs := fun a h z => (List.nodup_append.mp S.nd).2.2 a h a z rfl
  refine ⟨⟨[], (List.append_nil _).symm⟩, E.fz.trans (frz_same S), E.kp, E.dm, fun b o h => ?_, fun b h => .inl h⟩
  unfold frzA at h
  split at h
  · rename_i hz
    rcases E.na b (List.mem_append_right _ hz) with z | z
    · exact absurd hz (nin b z)
    · exact .inr z
  · exact E.nw b o h
theorem po_trim {f : MF} {ds : List Va} {H F : Hp} {ad : List Addr} {st : Sto} {Q : VK} {Wv : Value → Option Addr → Hp → Prop} (S : SR G H F ad st) (h : Po G Wv H F ad (QV G Q) (trimF f ds st)) : Po G Wv H F ad (QV G Q) (f ds st) := by
  unfold trimF at h
  revert h
  generalize f ds st = r
  intro h
  cases r with
  | bad => exact h
  | er c fs st1 => exact h
  | ok v st1 =>
    intro H1 F1 ad1 e1 S1 w rw
    replace h : Po G Wv H F ad (QV G Q) (match rsvN st.length st1 (st1.length + 1) v with
      | some x => if st.length ≤ st1.length ∧ (st1.take st.length).all (oldO st.length) = true then .ok (.d x) (st1.take st.length) else .bad
      | none => .bad) := h
    cases z : rsvN st.length st1 (st1.length + 1) v with
    | none => rw [z] at h; exact h.elim
    | some x =>
      rw [z] at h
      replace h : Po G Wv H F ad (QV G Q) (if st.length ≤ st1.length ∧ (st1.take st.length).all (oldO st.length) = true then .ok (.d x) (st1.take st.length) else .bad) := h
      split at h
      · rename_i hc
        obtain ⟨zs, rfl⟩ := e1.pre
        exact h H1 _ ad (ext_trim S1 e1) (S1.trim S.len hc.2) w (rsvN_ok S1 S.len rw z)
      · exact h.elim
/-- f(..), what is new is frozen behind it -/
theorem ck_tcall {k : Nat} {fa : Addr} {ps : List Str} {f : MF} {dvs : List V} {es : List D} {x : Str} {e : Expr} {ee : List Expr} {p pos : Pos} {m : MA} (F : OkB X.prog X.w X.K X.mg X.base k fa ps dvs (spM G f)) (hd : DflR G dvs es) (hr : Room k X.A) (hg : Gl X x) (hm : X.mg x = some (.ref fa)) (tk : Takes X W)
    (ha : DA G W X (e :: ee) m) (hdb : (x == ("__debug__" : Str)) = false := by decide) (he : starEach (e :: ee) X.env = (false, eval e X.env) :: starEach ee X.env := by rfl) (hpl : (backTo pos (starEach ee X.env)).any (·.1) = false := by rfl) : DE G W X (.Call (.Name x p) (e :: ee) [] pos) (mCall (trimF (withD es f)) m) := by
  obtain ⟨t, pt, st⟩ := ha
  obtain ⟨fd, ds, F, hv, hb, hk⟩ := F
  refine ⟨_, pe_callSD F hr hg hm hk hb hv (passAt tk) pt hdb he hpl, ?_⟩
  intro σ ρ H F ad st0 Q R S h
  refine simA_bind st R S h fun xs vs st1 H1 F1 ad1 _ R1 S1 rvs h1 => ?_
  exact ⟨F1, ad1, st1, xs ++ es.map Va.d, S1, Paired.append rvs (hd F1).va, po_trim (f := withD es f) S1 h1⟩
end
/-! ### star parameters -/
section
variable {G : Ga} {W : L2.WX} {X : Cx}
def mStarF (n : Nat) (m : MF) : MF := fun ds st => if n ≤ ds.length then (match ds? (ds.drop n) with
  | some es => if es.length ≤ cap then m (ds.take n ++ [.d (.tup es)]) st else .bad
  | none => .bad) else .bad
theorem star_sp {n : Nat} {m : MF} {vs : List V} {H : Hp} {Q : VK} {E : XK} (h : spM G (mStarF n m) vs H Q E) : ∃ ws rest, vs = ws ++ rest ∧ ws.length = n ∧ rest.length ≤ sizeLine ∧ ∀ p, H p = none → spM G m (ws ++ [V.ref p]) (upd H p (.tup rest)) Q E := by
  obtain ⟨F, ad, st, ds, S, r, h⟩ := h
  unfold mStarF at h
  split at h
  · rename_i hn
    have hl : vs.length = ds.length := Paired.length r
    have hs : vs = vs.take n ++ vs.drop n := (List.take_append_drop n vs).symm
    have r1 : RepVs G F ad (vs.take n) (ds.take n) ∧ RepVs G F ad (vs.drop n) (ds.drop n) := by
      clear h hs
      induction r generalizing n with
      | nil => simp only [List.take_nil, List.drop_nil]; exact ⟨.nil, .nil⟩
      | cons r t ih =>
        cases n with
        | zero => exact ⟨.nil, .cons r t⟩
        | succ n =>
          obtain ⟨a, b⟩ := ih (n := n) (by simpa using hn) (by simpa using hl)
          exact ⟨.cons r a, b⟩
    cases z : ds? (ds.drop n) with
    | none => rw [z] at h; exact h.elim
    | some es =>
      rw [z] at h
      replace h : Po G E H F ad (QV G Q) (if es.length ≤ cap then m (ds.take n ++ [.d (.tup es)]) st else .bad) := h
      split at h
      · rename_i hc
        have e2 := ds?_ok z
        have r2 := r1.2
        rw [e2] at r2
        have rr : Reps G F (vs.drop n) es := Reps.of r2
        refine ⟨vs.take n, vs.drop n, hs, by rw [List.length_take]; omega, by rw [rr.length]; exact cap_ok hc, fun p hp => ?_⟩
        have Ex := ext_new S (o := .tup (vs.drop n)) hp
        have rt : Rep G (upd F p (.tup (vs.drop n))) (.ref p) (.tup es) := .tup (SqT.of upd_same) (rr.same Ex.fz)
        have rl : RepVs G (upd F p (.tup (vs.drop n))) ad [V.ref p] [Va.d (.tup es)] := .cons rt .nil
        exact ⟨_, ad, st, ds.take n ++ [.d (.tup es)], S.new hp, Paired.append (RepVs.ext Ex r1.1) rl, h.from Ex⟩
      · exact h.elim
  · exact h.elim
/-- THE RULE for a def with a star parameter -/
theorem fnS_m {P : Program} {w : World} {mg : Str → Option Value} {base : Heap} {x qual pv : Str} {params : Arguments} {body : List Stmt} {scope : Scope} {f : Addr} {fd : FuncData} {N ps : List Str} {k n : Nat} {b : MS} {K : PySem.W.Frag} (F : FunD K x qual params body scope [] [] f fd) (S : FnScope N (ps ++ [pv]) scope) (hn : ps.length = n) (hj : ∀ F ad σ, G.jv F ad σ)
    (hbd : ∀ (kV doc pm : Value) (an : Option Addr) (cdv ct : Value) (us rest : List Value), us.length = ps.length → bindArgs (PySem.W.fnOf x qual params body scope .none kV doc pm an cdv ct) ⟨us ++ rest, []⟩ = (newTuple rest >>= fun t => pure (ps.zip us ++ [(pv, t)])))
    (hb : ∀ (cdv : Value) (A : Around) (outer : List Env) (s : Shared) (H : Hp) (E : XK), Room k (A.deeper (PyProof.Rows.envOfC qual scope s.heap.objs.size f cdv)) →
      DSs G (fun cls d _ H' => E cls d H') (cxOf (L2.CX P w) P w K mg base N qual scope f cdv A outer s H E) body b) : FnR P w K mg base (L2.CX P w) (k + 1) f (spM G (mStarF n (mFun (n + 1) N.length b))) := by
  obtain ⟨⟨oc, od, dV, kV, doc, pm, an, cdv, ct, osl, rfl, lk, hcd, hdf, hkw⟩, kp⟩ := F
  have dv : dV = .none := hdf.elim (fun h => h.2) fun h => absurd rfl h.1
  subst dv
  refine FnR.imp (StX.fn_star (ps := ps) (pv := pv) (sp := spM G (mFun (n + 1) N.length b)) lk hcd S StX.cxUp (hbd _ _ _ _ _ _) fun A outer s H vs Q E hr h => ?_) fun vs H Q E h => ?_
  · obtain ⟨t, p, z⟩ := hb cdv A outer s H E hr
    refine ⟨t, p, ?_⟩
    obtain ⟨F0, ad, st, ds, S0, r, h⟩ := h
    unfold mFun at h
    split at h
    · rename_i hl
      refine z _ _ H F0 ad st _ (start_rel hj r hl) S0 ?_
      revert h
      generalize b (ds.map some ++ List.replicate (N.length - (n + 1)) none) st = o
      intro h
      cases o with
      | nx ρ st1 => exact fun H' F' ad' σ' e S' R' => h H' F' ad' e S' _ .non
      | rt v st1 => exact fun H' F' ad' v' e S' R' => h H' F' ad' e S' _ R'
      | er c fs ρ st1 => exact fun H' F' ad' σ' cls d e S' R' z => h H' F' ad' cls d e S' z
      | bk ρ st1 => exact h.elim
      | ct ρ st1 => exact h.elim
      | bad => exact h.elim
    · exact h.elim
  · rw [hn]
    exact star_sp h
end
/-! ### calls of such a def as __init__ -/
section
variable {X : Cx} {CX : CXT} {k i : Nat} {f C : Addr} {sp : Sp} {E : L2.St → XK} {x : Str} {e : Expr} {es : List Expr} {t : TA} {p pos : Pos}
theorem run_makeT {pins : List (Addr × Obj)} {σ : L2.St} {H : Hp} {s : Shared} {Q : VK} {us : List Value} {vs : List V} (M : Mk X.K C f) (F : FnR X.prog X.w X.K X.mg X.base CX k f sp) (hr : Room (k + 1) X.A) (hx : PassesAt CX X σ (E σ)) (I : Inv X pins σ H s) (r : Vals vs us)
    (h : ∀ x dx, H x = none → H dx = none → dx ≠ x → sp (.ref x :: vs) (upd (upd H dx (.own x)) x (.ins C dx [])) (fun v H2 => v = .non ∧ Q (.ref x) H2) (E σ)) : wpAny (model X.prog X.w) X.A (PySem.call (.ref C) us) (EP X pins σ Q) X.xe s := by
  have hq := h (s.heap.objs.size + 1) s.heap.objs.size (I.hok.fresh (Nat.le_succ _)) (I.hok.fresh (Nat.le_refl _)) (Nat.ne_of_lt (Nat.lt_succ_self _))
  have I2 := Inv.made (C := C) I
  have r2 : Vals (V.ref (s.heap.objs.size + 1) :: vs) (Value.ref (s.heap.objs.size + 1) :: us) := .cons rfl r
  have run := F _ X.stack _ _ (Value.ref (s.heap.objs.size + 1) :: us) _ _ (E σ) (hr.make C us []) (I2.env0.make C us []) r2 hq
  refine wpAny_call (make_map (f := f) I.kIn M.makes M.init (beq_iff_eq.mp M.fn) (codeAny_mono run fun r s' z => ?_))
  cases r with
  | error e => exact hx pins _ _ e s' I2 z
  | ok fl =>
    cases fl with
    | ret u =>
      obtain ⟨v, H', I3, rv, ev, q3⟩ := I2.after z
      subst ev
      exact ⟨rv, ⟨V.ref (s.heap.objs.size + 1), H', I3, rfl, q3⟩⟩
    | next => exact False.elim z
    | brk => exact False.elim z
    | cont => exact False.elim z
/-- the reading of C(e, ..) -/
def tMakeT (C : Addr) (sp : Sp) (E : L2.St → XK) (t : TA) : TE := fun σ H Q => t σ H fun vs H1 => ∀ x dx, H1 x = none → H1 dx = none → dx ≠ x → sp (.ref x :: vs) (upd (upd H1 dx (.own x)) x (.ins C dx [])) (fun v H2 => v = .non ∧ Q (.ref x) H2) (E σ)
theorem pe_makeT (M : Mk X.K C f) (F : FnR X.prog X.w X.K X.mg X.base CX k f sp) (hr : Room (k + 1) X.A) (hg : Gl X x) (hm : X.mg x = some (.ref C)) (hx : ∀ σ, PassesAt CX X σ (E σ)) (ha : PA X (e :: es) t) (hdb : (x == ("__debug__" : Str)) = false := by decide)
    (he : starEach (e :: es) X.env = (false, eval e X.env) :: starEach es X.env := by rfl) (hpl : (backTo pos (starEach es X.env)).any (·.1) = false := by rfl) : PE X (.Call (.Name x p) (e :: es) [] pos) (tMakeT C sp E t) := by
  refine ⟨fun pins s σ H Q I h => ?_⟩
  refine wpAny_Call_Name_kw (ld_glob I hg hm ?_ hdb)
  exact PySem.W.callWith_K (h₀ := X.base) I.ok.mod.kin M.kp (thn (ha.run pos pins s σ H _ I h) fun us s1 ⟨vs, H1, I1, r, q⟩ => ⟨I1.kIn, run_makeT M F hr (hx σ) I1 r q⟩) he hpl
theorem pe_makeTS (M : Mk X.K C f) (F : FnR X.prog X.w X.K X.mg X.base CX k f sp) (hr : Room (k + 1) X.A) (hg : Gl X x) (hm : X.mg x = some (.ref C)) (hx : ∀ σ, PassesAt CX X σ (E σ)) (ha : PA X (e :: es) t) (hdb : (x == ("__debug__" : Str)) = false := by decide)
    (he : starEach (e :: es) X.env = (false, eval e X.env) :: starEach es X.env := by rfl) (hst : (backTo pos (starEach es X.env)).any (·.1) = true := by rfl) : PE X (.Call (.Name x p) (e :: es) [] pos) (tMakeT C sp E t) := by
  refine ⟨fun pins s σ H Q I h => ?_⟩
  refine wpAny_Call_Name_kw (ld_glob I hg hm ?_ hdb)
  exact PySem.W.callWith_S2 (h₀ := X.base) I.ok.mod.kin M.kp (thn (ha.run pos pins s σ H _ I h) fun us s1 ⟨vs, H1, I1, r, q⟩ => ⟨I1.kIn, run_makeT M F hr (hx σ) I1 r q⟩) he hst
/-- v(e, .., *y), v a name that holds the class -/
theorem pe_makeTV (M : Mk X.K C f) (F : FnR X.prog X.w X.K X.mg X.base CX k f sp) (hr : Room (k + 1) X.A) (hv : PE X (.Name x p) (tVar i)) (hx : ∀ σ, PassesAt CX X σ (E σ)) (ha : PA X (e :: es) t)
    (he : starEach (e :: es) X.env = (false, eval e X.env) :: starEach es X.env := by rfl) (hst : (backTo pos (starEach es X.env)).any (·.1) = true := by rfl) : PE X (.Call (.Name x p) (e :: es) [] pos) (fun σ H Q => σ[i]? = some (some (.ref C)) ∧ tMakeT C sp E t σ H Q) := by
  refine ⟨fun pins s σ H Q I h => ?_⟩
  obtain ⟨h0, h⟩ := h
  refine wpAny_Call_Name_kw (thn (hv.run pins s σ H (fun v H1 => v = .ref C ∧ H1 = H) I ⟨_, h0, rfl, rfl⟩) fun u s0 ⟨y, H0, I0, r0, e1, e2⟩ => ?_)
  subst e1 e2
  obtain rfl := r0
  exact PySem.W.callWith_S2 (h₀ := X.base) I.ok.mod.kin M.kp (thn (ha.run pos pins s0 σ H0 _ I0 h) fun us s1 ⟨vs, H1, I1, r, q⟩ => ⟨I1.kIn, run_makeT M F hr (hx σ) I1 r q⟩) he hst
/-! classmethods -/
theorem run_cmT {g q : Addr} {pins : List (Addr × Obj)} {σ : L2.St} {H : Hp} {s : Shared} {Q : VK} {us : List Value} {vs : List V} (F : FnR X.prog X.w X.K X.mg X.base CX k g sp) (hr : Room k X.A) (hx : PassesAt CX X σ (E σ)) (I : Inv X ((q, PySem.W.methodObj (.ref g) (.ref C)) :: pins) σ H s)
    (r : Vals vs us) (h : sp (.ref C :: vs) H Q (E σ)) : wpAny (model X.prog X.w) X.A (PySem.call (.ref q) us) (EP X pins σ Q) X.xe s := by
  have run := F X.A X.stack s H (.ref C :: us) (.ref C :: vs) Q (E σ) hr I.env0 (.cons rfl r) h
  have z : wpAny (model X.prog X.w) X.A (PySem.call (.ref q) us) (EP X ((q, PySem.W.methodObj (.ref g) (.ref C)) :: pins) σ Q) X.xe s := by
    refine wpAny_call (PySem.W.method_call (ClX.pin_at I) (codeAny_mono run fun r s' z => ?_))
    cases r with
    | error e => exact hx _ _ _ e s' I z
    | ok fl =>
      cases fl with
      | ret u => exact I.after z
      | next => exact False.elim z
      | brk => exact False.elim z
      | cont => exact False.elim z
  exact thn z fun _ _ y => ClX.unpinE y
def tCM (C : Addr) (sp : Sp) (E : L2.St → XK) (ta : TE) (t : TA) : TE := fun σ H Q => ta σ H fun x H1 => x = .ref C ∧ t σ H1 fun vs H2 => sp (.ref C :: vs) H2 Q (E σ)
theorem pe_cmT {g pr : Addr} {mc : Value} {o : Expr} {m : Str} {apos : Pos} {ta : TE} {pl : Sem Bool} (he : PE X o ta) (r : ClX.CRead X.K C mc) (c : ClX.CMet X.K C mc m pr g) (F : FnR X.prog X.w X.K X.mg X.base CX k g sp) (hr : Room k X.A) (hx : ∀ σ, PassesAt CX X σ (E σ)) (ha : PA X (e :: es) t)
    (hst : starEach (e :: es) X.env = (false, eval e X.env) :: starEach es X.env := by rfl) (hpl : (backTo pos (starEach es X.env)).any (·.1) = false := by rfl)
    (ht : eval (.Call (.Attribute o m apos) (e :: es) [] pos) X.env = (do
      let ov ← eval o X.env
      standAt apos.atName
      let (f, first) ← holding [ov] (getMethod ov m pl)
      callWith pos f first (backTo pos (starEach (e :: es) X.env)) (backToKw pos (keywordEach [] X.env))) := by rfl) : PE X (.Call (.Attribute o m apos) (e :: es) [] pos) (tCM C sp E ta t) := by
  refine ⟨fun pins s σ H Q I h => ?_⟩
  refine PySem.W.methodCall_KW (pl := pl) (thn (he.run pins s σ H _ I h) fun u s1 ⟨x, H1, I1, rx, ex, q⟩ => ?_) ht
  subst ex
  obtain rfl : u = Value.ref C := rx
  refine ClX.getmethcm_ok I1 r c fun s2 I2 => ?_
  refine ClX.callwith_cm I2 (ClX.base_none I1 (Nat.le_refl _)) c.fi (thn (ha.run pos _ s2 σ H1 _ I2 q) fun us s3 ⟨vs, H2, I3, rv, q2⟩ => ⟨⟨ClX.pin_at I3, I3.kIn⟩, ?_⟩) hst hpl
  exact run_cmT F hr (hx σ) I3 rv q2
end
section
variable {G : Ga} {W : L2.WX} {X : Cx}
/-- a def of any parameters, taken as one -/
abbrev OkR (P : Program) (w : World) (K : PySem.W.Frag) (mg : Str → Option Value) (base : Heap) (k : Nat) (f : Addr) (sp : Sp) : Prop := FnR P w K mg base (L2.CX P w) k f sp
theorem OkB.r {P : Program} {w : World} {K : PySem.W.Frag} {mg : Str → Option Value} {base : Heap} {k : Nat} {f : Addr} {ps : List Str} {sp : Sp} (h : OkB P w K mg base k f ps [] sp) : OkR P w K mg base k f sp := by
  obtain ⟨fd, F, hb⟩ := okb0 h
  refine FnR.imp (F.raw hb .nil) fun vs H Q E z => ?_
  rw [List.append_nil]
  exact z
section
variable {k i : Nat} {fa : Addr} {f : MF} {c : String} {x : Str} {e : Expr} {ee : List Expr} {p pos : Pos} {m : MA}
theorem sim_makeT {t : TA} (hc : c ∈ G.cs) (s : SimA G W t m) : SimE G W (tMakeT (G.ca c) (spM G f) (WE W) t) (mCall (makeP c f) m) := by
  intro σ ρ H F ad st Q R S h
  refine simA_bind s R S h fun xs vs st1 H1 F1 ad1 _ R1 S1 rvs h1 => ?_
  intro x dx h1' h2' ne
  have := sim_makeP (f := f) (es := []) (dvs := []) hc (fun _ => .nil) S1 rvs (by
    have e : withD [] f = f := by funext ds st; unfold withD; simp
    rw [e]; exact h1) x dx h1' h2' ne
  rw [List.append_nil] at this
  exact this
theorem ck_makeR (hK : X.K = G.K) (hc : c ∈ G.cs) (M : Mk G.K (G.ca c) fa) (F : OkR X.prog X.w X.K X.mg X.base k fa (spM G f)) (hr : Room (k + 1) X.A) (hg : Gl X x) (hm : X.mg x = some (.ref (G.ca c))) (tk : Takes X W)
    (ha : DA G W X (e :: ee) m) (hdb : (x == ("__debug__" : Str)) = false := by decide) (he : starEach (e :: ee) X.env = (false, eval e X.env) :: starEach ee X.env := by rfl) (hpl : (backTo pos (starEach ee X.env)).any (·.1) = false := by rfl) : DE G W X (.Call (.Name x p) (e :: ee) [] pos) (mCall (makeP c f) m) := by
  obtain ⟨t, pt, s⟩ := ha
  exact ⟨_, pe_makeT (by rw [hK]; exact M) F hr hg hm (passAt tk) pt hdb he hpl, sim_makeT hc s⟩
theorem ck_makeS (hK : X.K = G.K) (hc : c ∈ G.cs) (M : Mk G.K (G.ca c) fa) (F : OkR X.prog X.w X.K X.mg X.base k fa (spM G f)) (hr : Room (k + 1) X.A) (hg : Gl X x) (hm : X.mg x = some (.ref (G.ca c))) (tk : Takes X W)
    (ha : DA G W X (e :: ee) m) (hdb : (x == ("__debug__" : Str)) = false := by decide) (he : starEach (e :: ee) X.env = (false, eval e X.env) :: starEach ee X.env := by rfl) (hst : (backTo pos (starEach ee X.env)).any (·.1) = true := by rfl) : DE G W X (.Call (.Name x p) (e :: ee) [] pos) (mCall (makeP c f) m) := by
  obtain ⟨t, pt, s⟩ := ha
  exact ⟨_, pe_makeTS (by rw [hK]; exact M) F hr hg hm (passAt tk) pt hdb he hst, sim_makeT hc s⟩
/-- the slot holds the class -/
def mVarC (i : Nat) (c : String) (m : ME) : ME := fun ρ st => match ρ[i]? with
  | some (some (.d (.cls d))) => if d = c then m ρ st else .bad
  | _ => .bad
theorem ck_makeV (hK : X.K = G.K) (hc : c ∈ G.cs) (M : Mk G.K (G.ca c) fa) (F : OkR X.prog X.w X.K X.mg X.base k fa (spM G f)) (hr : Room (k + 1) X.A) (hv : PE X (.Name x p) (tVar i)) (tk : Takes X W)
    (ha : DA G W X (e :: ee) m) (he : starEach (e :: ee) X.env = (false, eval e X.env) :: starEach ee X.env := by rfl) (hst : (backTo pos (starEach ee X.env)).any (·.1) = true := by rfl) : DE G W X (.Call (.Name x p) (e :: ee) [] pos) (mVarC i c (mCall (makeP c f) m)) := by
  obtain ⟨t, pt, s⟩ := ha
  refine ⟨_, pe_makeTV (by rw [hK]; exact M) F hr hv (passAt tk) pt he hst, ?_⟩
  intro σ ρ H F ad st Q R S h
  unfold mVarC at h
  split at h
  · rename_i d z
    split at h
    · rename_i ed
      subst ed
      obtain ⟨v, hv, rv⟩ := R.at_ i _ z
      cases rv
      exact ⟨hv, sim_makeT hc s σ ρ H F ad st Q R S h⟩
    · exact h.elim
  · exact h.elim
/-- C.m(..) -/
def mCMeth (c : String) (g : MF) (m : MA) : ME := mCall (fun ds st => g (.d (.cls c) :: ds) st) m
theorem ck_cm {pr : Addr} {o : Expr} {mth : Str} {apos : Pos} {pl : Sem Bool} (g : MF) (hK : X.K = G.K) (hc : c ∈ G.cs) (ho : PE X o (tC (.ref (G.ca c)))) (rd : ClX.CRead G.K (G.ca c) (.type "type")) (cm : ClX.CMet G.K (G.ca c) (.type "type") mth pr fa) (F : OkR X.prog X.w X.K X.mg X.base k fa (spM G f)) (hr : Room k X.A) (tk : Takes X W) (hgf : g = f ∨ g = pureF f ∨ g = trimF f)
    (ha : DA G W X (e :: ee) m)
    (hst : starEach (e :: ee) X.env = (false, eval e X.env) :: starEach ee X.env := by rfl) (hpl : (backTo pos (starEach ee X.env)).any (·.1) = false := by rfl)
    (ht : eval (.Call (.Attribute o mth apos) (e :: ee) [] pos) X.env = (do
      let ov ← eval o X.env
      standAt apos.atName
      let (f, first) ← holding [ov] (getMethod ov mth pl)
      callWith pos f first (backTo pos (starEach (e :: ee) X.env)) (backToKw pos (keywordEach [] X.env))) := by rfl) : DE G W X (.Call (.Attribute o mth apos) (e :: ee) [] pos) (mCMeth c g m) := by
  obtain ⟨t, pt, s⟩ := ha
  refine ⟨_, pe_cmT (pl := pl) ho (by rw [hK]; exact rd) (by rw [hK]; exact cm) F hr (passAt tk) pt hst hpl ht, ?_⟩
  intro σ ρ H F ad st Q R S h
  refine ⟨rfl, ?_⟩
  refine simA_bind s R S h fun xs vs st1 H1 F1 ad1 _ R1 S1 rvs h1 => ?_
  have rv : RepVs G F1 ad1 (.ref (G.ca c) :: vs) (.d (.cls c) :: xs) := .cons (show Rep G _ _ _ from .cls c hc) rvs
  rcases hgf with e | e | e
  · subst e
    exact ⟨F1, ad1, st1, _, S1, rv, h1⟩
  · subst e
    exact spM_pure S1 rv h1
  · subst e
    exact ⟨F1, ad1, st1, _, S1, rv, po_trim S1 h1⟩
end
end

/-! M24: facts of the text as Bools; errors over several bases -/
inductive Bk where
  | ve | re | ae | le | oe
  deriving DecidableEq
def Bk.nm : Bk → String
  | .ve => "ValueError" | .re => "RuntimeError" | .ae => "ArithmeticError" | .le => "LookupError" | .oe => "OverflowError"
def Bk.nw : Bk → String
  | .ve => "ValueError.__new__" | .re => "RuntimeError.__new__" | .ae => "ArithmeticError.__new__" | .le => "LookupError.__new__" | .oe => "OverflowError.__new__"
def Bk.it : Bk → String
  | .ve => "ValueError.__init__" | .re => "RuntimeError.__init__" | .ae => "ArithmeticError.__init__" | .le => "LookupError.__init__" | .oe => "OverflowError.__init__"
def Bk.tl : Bk → List Value
  | .ve => [.type "ValueError", .type "Exception", .type "BaseException", .type "object"]
  | .re => [.type "RuntimeError", .type "Exception", .type "BaseException", .type "object"]
  | .ae => [.type "ArithmeticError", .type "Exception", .type "BaseException", .type "object"]
  | .le => [.type "LookupError", .type "Exception", .type "BaseException", .type "object"]
  | .oe => [.type "OverflowError", .type "ArithmeticError", .type "Exception", .type "BaseException", .type "object"]
theorem Bk.ok : ∀ b : Bk, XB b.nm b.nw b.it b.tl
  | .ve => ⟨PySem.F.excBase_ValueError, PySem.F.store_ValueError, by kernel_rfl, PyProof.Rows.Boot.«ValueError», by decide +kernel, by decide, by decide⟩
  | .re => ⟨PySem.F.excBase_RuntimeError, PySem.F.store_RuntimeError, by kernel_rfl, PyProof.Rows.Boot.«RuntimeError», by decide +kernel, by decide, by decide⟩
  | .ae => ⟨PySem.F.excBase_ArithmeticError, PySem.F.store_ArithmeticError, by kernel_rfl, PyProof.Rows.Boot.«ArithmeticError», by decide +kernel, by decide, by decide⟩
  | .le => ⟨PySem.F.excBase_LookupError, PySem.F.store_LookupError, by kernel_rfl, PyProof.Rows.Boot.«LookupError», by decide +kernel, by decide, by decide⟩
  | .oe => ⟨PySem.F.excBase_OverflowError, PySem.F.store_OverflowError, by kernel_rfl, PyProof.Rows.Boot.«OverflowError», by decide +kernel, by decide, by decide⟩
theorem eqI_of {a b : Option (Option Value)} (h : eqI a b = true) : a = b := of_decide_eq_true h
theorem eqB_of {a : Option Bool} {b : Bool} (h : eqB a b = true) : a = some b := of_decide_eq_true h
/-- an own error class -/
def oxB (k : Bk) (c : String) (K : PySem.W.Frag) : Bool := (match K.lookup (gaS K c) with
  | some ⟨.type "type", _, .cls cd, sl⟩ => (match cd.mro, sl.toList with
    | .ref C' :: bm, [_, _, _, _, some (.builtin n), _] => C' == gaS K c && (n == k.nw && (!cd.hasDel && (cd.hasDict && bm == k.tl)))
    | _, _ => false)
  | _ => false) && (PySem.W.excOver K (gaS K c) k.tl && (eqI (PySem.W.findIn K (.ref (gaS K c)) "__setattr__") (some (some (.builtin "object.__setattr__"))) && (eqB (PySem.W.subIn K (.ref (gaS K c)) (.type "BaseException")) true && (decide (PySem.W.typeIn K (.ref (gaS K c)) = some (.type "type")) && (PySem.W.keepIn K (.ref (gaS K c)) &&
  (xfB K (gaS K c) && (eqI (PySem.W.findIn K (.ref (gaS K c)) "__init__") (some (some (.ref (maS K c "__init__")))) && (decide (PySem.W.typeIn K (.ref (maS K c "__init__")) = some (.type "function")) &&
  (match PySem.W.findCls K (.type k.nm) (.type "type") "__init__" with | some (.val (.builtin z)) => decide (z = k.it) | _ => false)))))))))
structure Ox (K : PySem.W.Frag) (k : Bk) (c : String) : Prop where
  oex : OxC K (gaS K c) k.nw k.tl
  xf : XfC K (gaS K c)
  iC : PySem.W.findIn K (.ref (gaS K c)) "__init__" = some (some (.ref (maS K c "__init__")))
  tI : PySem.W.typeIn K (.ref (maS K c "__init__")) = some (.type "function")
  ve : PySem.W.findCls K (.type k.nm) (.type "type") "__init__" = some (.val (.builtin k.it))
theorem oxB_ok {k : Bk} {c : String} {K : PySem.W.Frag} (h : oxB k c K = true) : Ox K k c := by
  obtain ⟨h1, h⟩ := He.ba h
  obtain ⟨h2, h⟩ := He.ba h
  obtain ⟨h3, h⟩ := He.ba h
  obtain ⟨h4, h⟩ := He.ba h
  obtain ⟨h5, h⟩ := He.ba h
  obtain ⟨h6, h⟩ := He.ba h
  obtain ⟨h7, h⟩ := He.ba h
  obtain ⟨h8, h⟩ := He.ba h
  obtain ⟨h9, h10⟩ := He.ba h
  refine ⟨⟨?_, h2, eqI_of h3, eqB_of h4, of_decide_eq_true h5, h6⟩, xfB_ok h7, eqI_of h8, of_decide_eq_true h9, ?_⟩
  · split at h1
    · rename_i dd cd sl ho
      split at h1
      · rename_i C' bm k0 k1 k2 k3 n k5 hm hs
        simp only [Bool.and_eq_true, beq_iff_eq, Bool.not_eq_true'] at h1
        obtain ⟨rfl, rfl, hdel, hdct, rfl⟩ := h1
        obtain ⟨nm, bs, mro, ns, qn, hd, sn, sub, ab, col, del⟩ := cd
        dsimp only at hm hdel hdct
        subst hm hdel hdct
        have hsl : sl = #[k0, k1, k2, k3, some (.builtin k.nw), k5] := by
          obtain ⟨l⟩ := sl
          simp only at hs
          rw [hs]
        subst hsl
        exact ⟨nm, qn, ns, bs, sn, sub, ab, col, dd, k0, k1, k2, k3, k5, ho⟩
      · cases h1
    · cases h1
  · split at h10
    · rename_i q e
      rw [e, of_decide_eq_true h10]
    · cases h10
def xmB (xs : List String) (K : PySem.W.Frag) : Bool := xs.all fun c => xs.all fun e => eqB (PySem.W.exmOne K (.ref (gaS K c)) (.ref (gaS K e))) (decide (c = e))
theorem xmB_ok {xs : List String} {K : PySem.W.Frag} (h : xmB xs K = true) : ∀ c ∈ xs, ∀ e ∈ xs, PySem.W.exmOne K (.ref (gaS K c)) (.ref (gaS K e)) = some (decide (c = e)) := fun c hc e he => eqB_of (List.all_eq_true.mp (List.all_eq_true.mp h c hc) e he)
def nofB (c f : String) (K : PySem.W.Frag) : Bool := eqI (PySem.W.findIn K (.ref (gaS K c)) (Str.ofString f)) (some none)
def gintB (x : String) (i : Int) (K : PySem.W.Frag) : Bool := match PySem.W.nsIn K mainGlobals (Str.ofString x) with
  | some (some (.int j _)) => decide (j = i)
  | _ => false
theorem gint_of {t : Tab} {ex : PySem.W.Frag → Bool} {fn : List Df} {K : PySem.W.Frag} {mg : Str → Option Value} (T : Tx t ex fn K mg) {x : String} {i : Int} (h : gintB x i K = true) : ∃ t, mg (Str.ofString x) = some (.int i t) := by
  unfold gintB at h
  split at h
  · rename_i j tk e
    have : j = i := of_decide_eq_true h
    subst this
    exact ⟨tk, T.g _ _ e⟩
  · cases h
def sfB (c : String) (K : PySem.W.Frag) : Bool := PySem.W.selfFirst K (gaS K c)
def fnB (c m : String) (K : PySem.W.Frag) : Bool := PySem.W.fnIn K (maS K c m)
def bltB (c m id : String) (K : PySem.W.Frag) : Bool := eqI (PySem.W.findIn K (.ref (gaS K c)) (Str.ofString m)) (some (some (.builtin id)))
def ownIB (c nm : String) (K : PySem.W.Frag) : Bool := PySem.W.selfFirst K (gaS K c) && ((match PySem.W.findIn K (.ref (gaS K c)) (PySem.dunderR nm) with
  | some none => true
  | some (some (.ref _)) => true
  | _ => false) && ((PySem.W.findIn K (.type "int") (PySem.dunder nm)).isSome && ((PySem.W.findIn K (.type "int") (PySem.dunderR nm)).isSome && eqB (PySem.W.subIn K (.type "int") (.ref (gaS K c))) false)))
theorem ownIB_ok {c nm : String} {K : PySem.W.Frag} (h : ownIB c nm K = true) : OwnI K (gaS K c) nm := by
  obtain ⟨h1, h⟩ := He.ba h
  obtain ⟨h2, h⟩ := He.ba h
  obtain ⟨h3, h⟩ := He.ba h
  obtain ⟨h4, h5⟩ := He.ba h
  refine ⟨h1, ?_, Option.isSome_iff_exists.mp h3, Option.isSome_iff_exists.mp h4, eqB_of h5⟩
  split at h2
  · rename_i e; exact ⟨none, e, .inl rfl⟩
  · rename_i g e; exact ⟨_, e, .inr ⟨g, rfl⟩⟩
  · cases h2
/-- the def of a classmethod -/
def cmS (K : PySem.W.Frag) (c m : String) : Addr := match PySem.W.recIn K (maS K c m) "classmethod" with
  | some (.ref f :: _) => f
  | _ => 0
def crdB (c : String) (K : PySem.W.Frag) : Bool := PySem.W.readsIn K (gaS K c) (.type "type") && eqI (PySem.W.specialIn K (.ref (gaS K c)) "__getattribute__") (some (some (.builtin "type.__getattribute__")))
theorem crdB_ok {c : String} {K : PySem.W.Frag} (h : crdB c K = true) : ClX.CRead K (gaS K c) (.type "type") := by
  obtain ⟨h1, h2⟩ := He.ba h
  exact ⟨h1, eqI_of h2⟩
def cmB (c m : String) (K : PySem.W.Frag) : Bool := (match PySem.W.findCls K (.ref (gaS K c)) (.type "type") (Str.ofString m) with
  | some (.get (.builtin z) (.ref p) .none (.ref C')) => decide (z = "classmethod.__get__") && (decide (p = maS K c m) && decide (C' = gaS K c))
  | _ => false) && (match PySem.W.recIn K (maS K c m) "classmethod" with
  | some (.ref f :: _) => PySem.W.fnIn K f
  | _ => false)
theorem cmB_ok {c m : String} {K : PySem.W.Frag} (h : cmB c m K = true) : ClX.CMet K (gaS K c) (.type "type") (Str.ofString m) (maS K c m) (cmS K c m) := by
  obtain ⟨h1, h2⟩ := He.ba h
  have h3 : ∃ rest, PySem.W.recIn K (maS K c m) "classmethod" = some (.ref (cmS K c m) :: rest) ∧ PySem.W.fnIn K (cmS K c m) = true := by
    unfold cmS
    split at h2
    · rename_i f rest e
      rw [e]
      exact ⟨rest, rfl, h2⟩
    · cases h2
  obtain ⟨rest, e1, e2⟩ := h3
  refine ⟨?_, ⟨rest, e1⟩, e2⟩
  split at h1
  · rename_i z p C' e
    simp only [Bool.and_eq_true, decide_eq_true_eq] at h1
    obtain ⟨rfl, rfl, rfl⟩ := h1
    exact e
  · cases h1
/-- what is static, with the errors -/
def mkG (G : Ga) (xs : List String) (xm : ∀ c ∈ xs, ∀ e ∈ xs, PySem.W.exmOne G.K (.ref (G.ca c)) (.ref (G.ca e)) = some (decide (c = e))) : Ga := { G with xs := xs, xm := xm }
section
variable {G : Ga} {W : L2.WX} {X : Cx}
/-- raise C() -/
def mRaise0 (c : String) : MS := fun ρ st => .er c [] ρ st
theorem ds_raise0 {s : Stmt} {c : String} (hc : c ∈ G.xs) (hp : PS X s (fun _ σ H => tMkN (G.ca c) σ H fun cls d H' => W cls d σ H')) : DS G W X s (mRaise0 c) := by
  refine ⟨_, hp, ?_⟩
  intro σ ρ H F ad st D R S h
  exact h H F ad σ _ _ Ext.refl S R ⟨hc, rfl, .inl ⟨rfl, rfl⟩⟩
end

/-! M25: defs called where an exception is handled (no loop, no raise in them) -/
section
open PySem.Spec PyProof.Rows
theorem _root_.L2H.RoomH.units {k : Nat} {A : Around} (r : L2H.RoomH k A) : A.units + 64 < cLine := by have := r.un; omega
theorem _root_.L2H.RoomH.in1 {k : Nat} {A : Around} (r : L2H.RoomH (k + 1) A) : L2H.RoomH k A.in1 := ⟨by have := r.dp; show A.depth + 3 * k + 5 < _; omega, by have := r.un; show A.units + 1 + 16 * k + 200 < _; omega⟩
def cxW (CX : CXT) (P : Program) (w : World) (K : PySem.W.Frag) (mg : Str → Option Value) (base : Heap) (N : List Str) (qual : Str) (scope : Scope) (f : Addr) (cd : Value) (A : Around) (outer : List Env) (s : Shared) (H : Hp) (E : XK) : Cx := { cxOf CX P w K mg base N qual scope f cd A outer s H E with calm := false }
structure FnW (P : Program) (w : World) (K : PySem.W.Frag) (mg : Str → Option Value) (base : Heap) (CX : CXT) (k : Nat) (f : Addr) (fd : FuncData) (ps : List Str) (sp : Sp) : Prop where
  len : ∀ vs H Q E, sp vs H Q E → vs.length = ps.length
  run : ∀ (A : Around) (outer : List Env) (s : Shared) (H : Hp) (args : Args) (us : List Value) (vs : List V) (Q : VK) (E : XK), L2H.RoomH k A → Env0 P w K mg base A outer s H → BindsTo s fd args (ps.zip us) → Vals vs us → sp vs H Q E → codeAny (model P w) A (.call (.ref f) args) (CR CX outer P w H s Q E) s
theorem inv_startW {CX : CXT} {P : Program} {w : World} {K : PySem.W.Frag} {mg : Str → Option Value} {base : Heap} {N ps : List Str} {qual : Str} {scope : Scope} {f : Addr} {cd : Value} {A : Around} {outer : List Env} {s s1 : Shared} {H : Hp} {E : XK} {us : List Value} {vs : List V}
    (S : FnScope N ps scope) (e0 : Env0 P w K mg base A outer s H) (hl : vs.length = ps.length) (r : Vals vs us)
    (x : InCallC s s.heap.objs.size (bindL (envOfC qual scope s.heap.objs.size f cd).kindOf (ps.zip us) fun _ => none) (cellsFrom (s.heap.objs.size + 1) scope.names []) (bindC (envOfC qual scope s.heap.objs.size f cd).kindOf (ps.zip us) fun _ => none) s1) :
    Inv (cxW CX P w K mg base N qual scope f cd A outer s H E) [] (L2.start N vs) H s1 := by
  have e1 : Env0 P w K mg base { A with handled := none } outer s H := ⟨e0.frames, e0.mod, e0.bs, e0.bsz, e0.funs, e0.frf, e0.hok, e0.bare⟩
  have I := inv_start (CX := CX) (E := E) (A := { A with handled := none }) S rfl e1 hl r x
  obtain ⟨o, i2, i3, i4, i5, i6, i7, i8, i9, i10, i11⟩ := I
  obtain ⟨o1, o2, o3, o4, o5, o6, o7, o8, o9, o10, o11, o12, o13, o14, o15, o16, o17, o18⟩ := o
  exact ⟨⟨o1, o2, o3, o4, o5, o6, o7, o8, (fun z => Bool.noConfusion (show false = true from z)), o10, o11, o12, o13, o14, o15, o16, o17, o18⟩, i2, i3, i4, i5, i6, i7, i8, i9, i10, i11⟩
variable {G : Ga} {W : L2.WX} {X : Cx}
/-- THE RULE for such a def -/
theorem fn_mW {P : Program} {w : World} {mg : Str → Option Value} {base : Heap} {x qual : Str} {params : Arguments} {body : List Stmt} {scope : Scope} {dvs : List V} {kws : List (Str × V)} {f : Addr} {fd : FuncData} {N ps : List Str} {k n : Nat} {b : MS} {K : PySem.W.Frag} (F : FunD K x qual params body scope dvs kws f fd) (S : FnScope N ps scope) (hn : ps.length = n) (hj : ∀ F ad σ, G.jv F ad σ)
    (hb : ∀ (cdv : Value) (A : Around) (outer : List Env) (s : Shared) (H : Hp) (E : XK), L2H.RoomH k (A.deeper (envOfC qual scope s.heap.objs.size f cdv)) →
      DSs G (fun cls d _ H' => E cls d H') (cxW (L2.CX P w) P w K mg base N qual scope f cdv A outer s H E) body b) : FnW P w K mg base (L2.CX P w) (k + 1) f fd ps (spM G (mFun n N.length b)) := by
  obtain ⟨⟨oc, od, dV, kV, doc, pm, an, cdv, ct, osl, rfl, lk, hcd, _, _⟩, _⟩ := F
  refine ⟨fun vs H Q E h => by rw [hn]; exact spM_len h, fun A outer s H args us vs Q E hr e0 hbd r hsp => ?_⟩
  have hl : vs.length = ps.length := by rw [hn]; exact spM_len hsp
  have KX : K.In s.heap := e0.mod.kin.keeps fun b o e => (e0.bs b o e).1
  have lim : s.heap.NoLimit := e0.mod.nolimit.keeps fun b o e => (e0.bs b o e).1
  have hkind : ∀ y ∈ ps.zip us, scope.names.lookup y.1 = some .local ∨ (scope.names.lookup y.1 = some .cell ∧ ((cellsFrom (s.heap.objs.size + 1) scope.names []).lookup y.1).isSome = true) := fun y hy => by
    rcases S.par y.1 (List.of_mem_zip hy).1 with q | q
    · exact .inl q
    · exact .inr ⟨q, PySem.W.cellsFrom_some _ _ _ (.inl q)⟩
  refine codeAny_call_function hr.depth (KX _ _ lk) rfl S.co S.gen rfl (PySem.W.codeRec_of KX hcd) (hbd _ _ _ _ ?_)
  refine wpAny_newFunctionEnv_cells S.kind hkind fun env he s1 x => ?_
  subst he
  refine ⟨lim.keeps x.toInCall.keep, codeAny_func ?_⟩
  obtain ⟨t, ht, z⟩ := hb cdv A outer s H E (hr.deeper _)
  have I := inv_startW (CX := L2.CX P w) (E := E) S e0 hl r x
  have hq : t { nx := fun _ H' => Q .non H', rt := Q } (L2.start N vs) H := by
    obtain ⟨F0, ad, st, ds, S0, r, h⟩ := hsp
    unfold mFun at h
    split at h
    · rename_i hl
      refine z _ _ H F0 ad st _ (start_rel hj r hl) S0 ?_
      revert h
      generalize b (ds.map some ++ List.replicate (N.length - n) none) st = o
      intro h
      cases o with
      | nx ρ st1 => exact fun H' F' ad' σ' e S' R' => h H' F' ad' e S' _ .non
      | rt v st1 => exact fun H' F' ad' v' e S' R' => h H' F' ad' e S' _ R'
      | er c fs ρ st1 => exact fun H' F' ad' σ' cls d e S' R' z => h H' F' ad' cls d e S' z
      | bk ρ st1 => exact h.elim
      | ct ρ st1 => exact h.elim
      | bad => exact h.elim
    · exact h.elim
  refine wpAny_mono (ht.run [] s1 (L2.start N vs) H _ I hq) (fun fl s' hs => ?_) fun e s' hs => hs
  cases fl with
  | ret u =>
    obtain ⟨v, σ', H', J, rv, q⟩ := hs
    exact ⟨v, H', J.os, J.bare, J.base, J.hok, rv, q⟩
  | next =>
    obtain ⟨σ', H', J, q⟩ := hs
    exact ⟨V.non, H', J.os, J.bare, J.base, J.hok, rfl, q⟩
  | brk =>
    obtain ⟨_, _, _, q⟩ := hs
    exact False.elim q
  | cont =>
    obtain ⟨_, _, _, q⟩ := hs
    exact False.elim q
/-- such a def, taken as one -/
def OkW (P : Program) (w : World) (K : PySem.W.Frag) (mg : Str → Option Value) (base : Heap) (k : Nat) (f : Addr) (ps : List Str) (sp : Sp) : Prop := ∃ fd, FnW P w K mg base (L2.CX P w) k f fd ps sp ∧ Binds K fd ps [] ∧ PySem.W.keepIn K (.ref f) = true
theorem okw_mk {P : Program} {w : World} {K : PySem.W.Frag} {mg : Str → Option Value} {base : Heap} {x qual : Str} {params : Arguments} {body : List Stmt} {scope : Scope} {f : Addr} {ps : List Str} {k : Nat} {sp : Sp} (F : ∃ fd, FunD K x qual params body scope [] [] f fd)
    (b : ∀ (kV doc pm : Value) (an : Option Addr) (cdv ct : Value) (us : List Value), us.length = ps.length → bindArgs (PySem.W.fnOf x qual params body scope .none kV doc pm an cdv ct) ⟨us, []⟩ = pure (ps.zip us))
    (h : ∀ fd, FunD K x qual params body scope [] [] f fd → FnW P w K mg base (L2.CX P w) k f fd ps sp) : OkW P w K mg base k f ps sp := by
  obtain ⟨fd, F⟩ := F
  exact ⟨fd, h fd F, F.bindsN b, F.kp⟩
/-- in a suite -/
theorem spM_sx {a : Addr} {i : Nat} {c : String} {fs : List (String × Va)} {cls : Value} {d : Option Addr} {m : MF} {vs : List V} {H : Hp} {Q : VK} {E : XK} (h : spM (G.sx a i c fs cls d) m vs H Q E) : spM G m vs H Q E := by
  obtain ⟨F, ad, st, ds, S, r, h⟩ := h
  refine ⟨F, ad, st, ds, SR.swap (G := G.sx a i c fs cls d) (G' := G) rfl rfl rfl S, RepVs.swap (G := G.sx a i c fs cls d) (G' := G) rfl rfl rfl r, ?_⟩
  revert h
  generalize m ds st = o
  intro h
  cases o with
  | bad => exact h
  | ok v st1 => exact fun H' F' ad' e S' w rw => h H' F' ad' e (SR.swap (G := G) (G' := G.sx a i c fs cls d) rfl rfl rfl S') w (RepV.swap (G := G) (G' := G.sx a i c fs cls d) rfl rfl rfl rw)
  | er c' fs' st1 =>
    intro H' F' ad' cls' d' e S' z
    refine h H' F' ad' cls' d' e (SR.swap (G := G) (G' := G.sx a i c fs cls d) rfl rfl rfl S') ?_
    obtain ⟨z1, z2, z3⟩ := z
    refine ⟨z1, z2, z3.imp id fun ⟨dx, vfs, q1, q2, q3⟩ => ⟨dx, vfs, q1, q2, RepFs.swap (G := G) (G' := G.sx a i c fs cls d) rfl rfl rfl q3⟩⟩
theorem okw_sx {P : Program} {w : World} {K : PySem.W.Frag} {mg : Str → Option Value} {base : Heap} {k : Nat} {f : Addr} {ps : List Str} {m : MF} {a : Addr} {i : Nat} {c : String} {fs : List (String × Va)} {cls : Value} {d : Option Addr} (h : OkW P w K mg base k f ps (spM G m)) : OkW P w K mg base k f ps (spM (G.sx a i c fs cls d) m) := by
  obtain ⟨fd, F, hb, hk⟩ := h
  exact ⟨fd, ⟨fun vs H Q E h => F.len vs H Q E (spM_sx h), fun A outer s H args us vs Q E hr e0 hbd r h => F.run A outer s H args us vs Q E hr e0 hbd r (spM_sx h)⟩, hb, hk⟩
theorem run_fnWA {CX : CXT} {k : Nat} {f : Addr} {fd : FuncData} {ps : List Str} {sp : Sp} {E : L2.St → XK} {A : Around} {pins : List (Addr × Obj)} {σ : L2.St} {H : Hp} {s : Shared} {Q : VK} {us : List Value} {vs : List V} (hA : A.frames = X.A.frames) (F : FnW X.prog X.w X.K X.mg X.base CX k f fd ps sp) (hr : L2H.RoomH k A) (hb : Binds X.K fd ps []) (hx : PassesAt CX X σ (E σ))
    (I : Inv X pins σ H s) (r : Vals vs us) (h : sp vs H Q (E σ)) : wpAny (model X.prog X.w) A (PySem.call (.ref f) us) (EP X pins σ Q) X.xe s := by
  have hl : (us ++ []).length = ps.length := by rw [List.append_nil, ← r.length]; exact F.len _ _ _ _ h
  have e0 : Env0 X.prog X.w X.K X.mg X.base A X.stack s H := by
    have e := I.env0
    exact ⟨by rw [hA]; exact e.frames, e.mod, e.bs, e.bsz, e.funs, e.frf, e.hok, e.bare⟩
  have hb' := hb s us I.kIn hl
  rw [List.append_nil] at hb'
  refine wpAny_call (codeAny_mono (F.run A X.stack s H ⟨us, []⟩ us vs Q (E σ) hr e0 hb' r h) fun r s' hq => ?_)
  cases r with
  | error e => exact hx pins H s e s' I hq
  | ok fl =>
    cases fl with
    | ret u => exact I.after hq
    | next => exact False.elim hq
    | brk => exact False.elim hq
    | cont => exact False.elim hq
theorem op_ownNW {CX : CXT} {k : Nat} {f C : Addr} {fd : FuncData} {ps : List Str} {sp : Sp} {E : L2.St → XK} (ho : PySem.W.mroIn X.K C (.type "object") = some true) (hn : PySem.W.findIn X.K (.ref C) "__ne__" = some (some (.builtin "object.__ne__"))) (hm : Meth X.K C "__eq__" f) (F : FnW X.prog X.w X.K X.mg X.base CX k f fd ps sp) (hr : L2H.RoomH (k + 1) X.A) (hb : Binds X.K fd ps []) (hx : ∀ σ, PassesAt CX X σ (E σ)) : OpRS X (compareOp .NotEq) (rOwnN X.K C sp E) := by
  intro pins s σ H x y v u Q I rx ry h
  obtain ⟨p, dx, fs, t, rfl, hp, ty, nf, h⟩ := h
  obtain rfl : v = Value.ref p := rx
  obtain ⟨mA, O, _⟩ := ins_get I.hok hp
  obtain ⟨od, J, _⟩ := O.look
  show wpAny _ _ (richCompare .NotEq (.ref p) u) _ _ _
  refine own_ne (by have := hr.units; omega) I.kIn J (ty_looks I ry ty) nf ho hn hm.at_ hm.fn ?_
  refine wpAny_mono (run_fnWA (A := X.A.in1) (us := [.ref p, u]) (vs := [.ref p, y]) rfl F hr.in1 hb (hx σ) I (.cons rfl (.cons ry .nil)) h) (fun v s' z => ?_) fun _ _ z => z
  obtain ⟨v, H', I', r, c, rfl, q⟩ := z
  cases r
  exact ⟨c, rfl, .bl (!c), H', I', rfl, q⟩
theorem or_ownNW {k : Nat} {fa : Addr} {ps : List Str} {f : MF} {c : String} (hK : X.K = G.K) (hc : c ∈ G.cs) (hn : PySem.W.findIn G.K (.ref (G.ca c)) "__ne__" = some (some (.builtin "object.__ne__"))) (hm : Meth G.K (G.ca c) "__eq__" fa) (F : OkW X.prog X.w X.K X.mg X.base k fa ps (spM G f)) (hr : L2H.RoomH (k + 1) X.A) (tk : Takes X W) : OpRS X (compareOp .NotEq) (rOwnN G.K (G.ca c) (spM G f) (WE W)) := by
  obtain ⟨fd, F, hb, _⟩ := F
  have := op_ownNW (E := WE W) (by rw [hK]; exact (G.cok c hc).tm) (by rw [hK]; exact hn) (by rw [hK]; exact hm) F hr hb (passAt tk)
  rw [hK] at this
  exact this
end
theorem room_suite {X : Cx} {k : Nat} {a : Addr} {pn : List (Addr × Obj)} (r : Room k X.A) : L2H.RoomH k (X.suite a pn).A := ⟨r.dp, r.un⟩


def top (i : Nat) : Stmt := PySem.Challenge.pw_twodivisions_k53_great_numbers_written_o.main.body.getD i (.Pass ⟨0, 0, 0, 0⟩)
abbrev s_is_integer : Stmt := (top 8)
abbrev n_is_integer : List Str := ["value"]
theorem sc_is_integer : FnScope n_is_integer ["value"] (defScope s_is_integer) := ⟨rfl, rfl, rfl, by decide +kernel, rfl, by decide +kernel, by decide +kernel⟩
abbrev s_is_between : Stmt := (top 9)
abbrev n_is_between : List Str := ["value", "least", "greatest"]
theorem sc_is_between : FnScope n_is_between ["value", "least", "greatest"] (defScope s_is_between) := ⟨rfl, rfl, rfl, by decide +kernel, rfl, by decide +kernel, by decide +kernel⟩
abbrev s_is_row_like : Stmt := (top 10)
abbrev n_is_row_like : List Str := ["value"]
theorem sc_is_row_like : FnScope n_is_row_like ["value"] (defScope s_is_row_like) := ⟨rfl, rfl, rfl, by decide +kernel, rfl, by decide +kernel, by decide +kernel⟩
abbrev s_is_sign : Stmt := (top 11)
abbrev n_is_sign : List Str := ["value"]
theorem sc_is_sign : FnScope n_is_sign ["value"] (defScope s_is_sign) := ⟨rfl, rfl, rfl, by decide +kernel, rfl, by decide +kernel, by decide +kernel⟩
abbrev s_is_piece : Stmt := (top 16)
abbrev n_is_piece : List Str := ["value", "size", "figure"]
theorem sc_is_piece : FnScope n_is_piece ["value", "size"] (defScope s_is_piece) := ⟨rfl, rfl, rfl, by decide +kernel, rfl, by decide +kernel, by decide +kernel⟩
abbrev s_require_pieces : Stmt := (top 17)
abbrev n_require_pieces : List Str := ["pieces", "size", "index", "piece"]
theorem sc_require_pieces : FnScope n_require_pieces ["pieces", "size"] (defScope s_require_pieces) := ⟨rfl, rfl, rfl, by decide +kernel, rfl, by decide +kernel, by decide +kernel⟩
abbrev s_require_modulus : Stmt := (top 18)
abbrev n_require_modulus : List Str := ["modulus"]
theorem sc_require_modulus : FnScope n_require_modulus ["modulus"] (defScope s_require_modulus) := ⟨rfl, rfl, rfl, by decide +kernel, rfl, by decide +kernel, by decide +kernel⟩
abbrev s_joined : Stmt := (top 19)
abbrev n_joined : List Str := ["one", "other", "modulus"]
theorem sc_joined : FnScope n_joined ["one", "other", "modulus"] (defScope s_joined) := ⟨rfl, rfl, rfl, by decide +kernel, rfl, by decide +kernel, by decide +kernel⟩
abbrev s_block_of : Stmt := (top 20)
abbrev n_block_of : List Str := ["word", "size", "modulus", "found", "figure"]
theorem sc_block_of : FnScope n_block_of ["word", "size", "modulus"] (defScope s_block_of) := ⟨rfl, rfl, rfl, by decide +kernel, rfl, by decide +kernel, by decide +kernel⟩
abbrev s_repeated : Stmt := (top 21)
abbrev n_repeated : List Str := ["block", "times", "modulus", "found"]
theorem sc_repeated : FnScope n_repeated ["block", "times", "modulus"] (defScope s_repeated) := ⟨rfl, rfl, rfl, by decide +kernel, rfl, by decide +kernel, by decide +kernel⟩
abbrev s_figure_at : Stmt := (top 22)
abbrev n_figure_at : List Str := ["piece", "rest", "depth"]
theorem sc_figure_at : FnScope n_figure_at ["piece", "rest", "depth"] (defScope s_figure_at) := ⟨rfl, rfl, rfl, by decide +kernel, rfl, by decide +kernel, by decide +kernel⟩
abbrev s_GreatNumber___init__ : Stmt := (inClass (top 24) 0)
abbrev n_GreatNumber___init__ : List Str := ["self", "size", "sign", "pieces"]
theorem sc_GreatNumber___init__ : FnScope n_GreatNumber___init__ ["self", "size", "sign", "pieces"] (defScope s_GreatNumber___init__) := ⟨rfl, rfl, rfl, by decide +kernel, rfl, by decide +kernel, by decide +kernel⟩
abbrev s_GreatNumber_from_pieces : Stmt := (inClass (top 24) 1)
abbrev n_GreatNumber_from_pieces : List Str := ["cls", "size", "sign", "pieces"]
theorem sc_GreatNumber_from_pieces : FnScope n_GreatNumber_from_pieces ["cls", "size", "sign", "pieces"] (defScope s_GreatNumber_from_pieces) := ⟨rfl, rfl, rfl, by decide +kernel, rfl, by decide +kernel, by decide +kernel⟩
abbrev s_GreatNumber_base_size : Stmt := (inClass (top 24) 2)
abbrev n_GreatNumber_base_size : List Str := ["self"]
theorem sc_GreatNumber_base_size : FnScope n_GreatNumber_base_size ["self"] (defScope s_GreatNumber_base_size) := ⟨rfl, rfl, rfl, by decide +kernel, rfl, by decide +kernel, by decide +kernel⟩
abbrev s_GreatNumber_number_sign : Stmt := (inClass (top 24) 3)
abbrev n_GreatNumber_number_sign : List Str := ["self"]
theorem sc_GreatNumber_number_sign : FnScope n_GreatNumber_number_sign ["self"] (defScope s_GreatNumber_number_sign) := ⟨rfl, rfl, rfl, by decide +kernel, rfl, by decide +kernel, by decide +kernel⟩
abbrev s_GreatNumber_figures : Stmt := (inClass (top 24) 4)
abbrev n_GreatNumber_figures : List Str := ["self", "word", "times"]
theorem sc_GreatNumber_figures : FnScope n_GreatNumber_figures ["self"] (defScope s_GreatNumber_figures) := ⟨rfl, rfl, rfl, by decide +kernel, rfl, by decide +kernel, by decide +kernel⟩
abbrev s_GreatNumber_pieces : Stmt := (inClass (top 24) 5)
abbrev n_GreatNumber_pieces : List Str := ["self"]
theorem sc_GreatNumber_pieces : FnScope n_GreatNumber_pieces ["self"] (defScope s_GreatNumber_pieces) := ⟨rfl, rfl, rfl, by decide +kernel, rfl, by decide +kernel, by decide +kernel⟩
abbrev s_GreatNumber___getitem__ : Stmt := (inClass (top 24) 7)
abbrev n_GreatNumber___getitem__ : List Str := ["self", "index", "begin", "word", "times"]
theorem sc_GreatNumber___getitem__ : FnScope n_GreatNumber___getitem__ ["self", "index"] (defScope s_GreatNumber___getitem__) := ⟨rfl, rfl, rfl, by decide +kernel, rfl, by decide +kernel, by decide +kernel⟩
abbrev s_GreatNumber_signed : Stmt := (inClass (top 24) 8)
abbrev n_GreatNumber_signed : List Str := ["self", "sign", "pieces"]
theorem sc_GreatNumber_signed : FnScope n_GreatNumber_signed ["self", "sign", "pieces"] (defScope s_GreatNumber_signed) := ⟨rfl, rfl, rfl, by decide +kernel, rfl, by decide +kernel, by decide +kernel⟩
abbrev s_GreatNumber___lshift__ : Stmt := (inClass (top 24) 9)
abbrev n_GreatNumber___lshift__ : List Str := ["self", "count", "pieces"]
theorem sc_GreatNumber___lshift__ : FnScope n_GreatNumber___lshift__ ["self", "count"] (defScope s_GreatNumber___lshift__) := ⟨rfl, rfl, rfl, by decide +kernel, rfl, by decide +kernel, by decide +kernel⟩
abbrev s_GreatNumber___neg__ : Stmt := (inClass (top 24) 10)
abbrev n_GreatNumber___neg__ : List Str := ["self"]
theorem sc_GreatNumber___neg__ : FnScope n_GreatNumber___neg__ ["self"] (defScope s_GreatNumber___neg__) := ⟨rfl, rfl, rfl, by decide +kernel, rfl, by decide +kernel, by decide +kernel⟩
abbrev s_GreatNumber___abs__ : Stmt := (inClass (top 24) 11)
abbrev n_GreatNumber___abs__ : List Str := ["self"]
theorem sc_GreatNumber___abs__ : FnScope n_GreatNumber___abs__ ["self"] (defScope s_GreatNumber___abs__) := ⟨rfl, rfl, rfl, by decide +kernel, rfl, by decide +kernel, by decide +kernel⟩
abbrev s_compared : Stmt := (top 23)
abbrev n_compared : List Str := ["one", "other", "first", "second", "left", "right", "mine", "theirs", "both", "enough", "depth", "here", "there"]
theorem sc_compared : FnScope n_compared ["one", "other"] (defScope s_compared) := ⟨rfl, rfl, rfl, by decide +kernel, rfl, by decide +kernel, by decide +kernel⟩
abbrev s_GreatNumber_order : Stmt := (inClass (top 24) 12)
abbrev n_GreatNumber_order : List Str := ["self", "other"]
theorem sc_GreatNumber_order : FnScope n_GreatNumber_order ["self", "other"] (defScope s_GreatNumber_order) := ⟨rfl, rfl, rfl, by decide +kernel, rfl, by decide +kernel, by decide +kernel⟩
abbrev s_GreatNumber___eq__ : Stmt := (inClass (top 24) 13)
abbrev n_GreatNumber___eq__ : List Str := ["self", "other"]
theorem sc_GreatNumber___eq__ : FnScope n_GreatNumber___eq__ ["self", "other"] (defScope s_GreatNumber___eq__) := ⟨rfl, rfl, rfl, by decide +kernel, rfl, by decide +kernel, by decide +kernel⟩
abbrev s_GreatNumber___lt__ : Stmt := (inClass (top 24) 14)
abbrev n_GreatNumber___lt__ : List Str := ["self", "other"]
theorem sc_GreatNumber___lt__ : FnScope n_GreatNumber___lt__ ["self", "other"] (defScope s_GreatNumber___lt__) := ⟨rfl, rfl, rfl, by decide +kernel, rfl, by decide +kernel, by decide +kernel⟩
abbrev s_GreatNumber_remainder : Stmt := (inClass (top 24) 15)
abbrev n_GreatNumber_remainder : List Str := ["self", "modulus", "found", "word", "times"]
theorem sc_GreatNumber_remainder : FnScope n_GreatNumber_remainder ["self", "modulus"] (defScope s_GreatNumber_remainder) := ⟨rfl, rfl, rfl, by decide +kernel, rfl, by decide +kernel, by decide +kernel⟩
abbrev s_GreatNumber_plain : Stmt := (inClass (top 24) 16)
abbrev n_GreatNumber_plain : List Str := ["self", "found", "place", "word", "times", "figure"]
theorem sc_GreatNumber_plain : FnScope n_GreatNumber_plain ["self"] (defScope s_GreatNumber_plain) := ⟨rfl, rfl, rfl, by decide +kernel, rfl, by decide +kernel, by decide +kernel⟩
abbrev s_l_pool : Stmt := (top 26)
abbrev n_l_pool : List Str := ["_law_script", "_law_k", "_law_cell", "_law_seed"]
theorem sc_l_pool : FnScope n_l_pool ["_law_script", "_law_k"] (defScope s_l_pool) := ⟨rfl, rfl, rfl, by decide +kernel, rfl, by decide +kernel, by decide +kernel⟩
abbrev s_l_draw : Stmt := (top 27)
abbrev n_l_draw : List Str := ["_law_pool_here", "_law_many", "_law_digit"]
theorem sc_l_draw : FnScope n_l_draw ["_law_pool_here", "_law_many"] (defScope s_l_draw) := ⟨rfl, rfl, rfl, by decide +kernel, rfl, by decide +kernel, by decide +kernel⟩
abbrev s_l_pieces : Stmt := (top 29)
abbrev n_l_pieces : List Str := ["_law_pool_here", "_law_size", "_law_most", "_law_times", "_law_found", "_law_turn", "_law_word", "_law_many", "_law_at"]
theorem sc_l_pieces : FnScope n_l_pieces ["_law_pool_here", "_law_size", "_law_most", "_law_times"] (defScope s_l_pieces) := ⟨rfl, rfl, rfl, by decide +kernel, rfl, by decide +kernel, by decide +kernel⟩
abbrev s_l_figures : Stmt := (top 30)
abbrev n_l_figures : List Str := ["_law_pieces_here", "_law_found", "_law_word", "_law_many"]
theorem sc_l_figures : FnScope n_l_figures ["_law_pieces_here"] (defScope s_l_figures) := ⟨rfl, rfl, rfl, by decide +kernel, rfl, by decide +kernel, by decide +kernel⟩
abbrev s_l_number : Stmt := (top 31)
abbrev n_l_number : List Str := ["_law_side", "_law_figures_here", "_law_size", "_law_found", "_law_figure"]
theorem sc_l_number : FnScope n_l_number ["_law_side", "_law_figures_here", "_law_size"] (defScope s_l_number) := ⟨rfl, rfl, rfl, by decide +kernel, rfl, by decide +kernel, by decide +kernel⟩
abbrev s_l_integer : Stmt := (top 32)
abbrev n_l_integer : List Str := ["_law_value", "_law_due"]
theorem sc_l_integer : FnScope n_l_integer ["_law_value", "_law_due"] (defScope s_l_integer) := ⟨rfl, rfl, rfl, by decide +kernel, rfl, by decide +kernel, by decide +kernel⟩
abbrev s_l_is : Stmt := (top 33)
abbrev n_l_is : List Str := ["_law_great", "_law_side", "_law_figures_here", "_law_size", "_law_number_here", "_law_at"]
theorem sc_l_is : FnScope n_l_is ["_law_great", "_law_side", "_law_figures_here", "_law_size"] (defScope s_l_is) := ⟨rfl, rfl, rfl, by decide +kernel, rfl, by decide +kernel, by decide +kernel⟩
abbrev s_l_turns : Stmt := (top 34)
abbrev n_l_turns : List Str := ["_law_great", "_law_side", "_law_figures_here", "_law_size", "_law_count", "_law_lower"]
theorem sc_l_turns : FnScope n_l_turns ["_law_great", "_law_side", "_law_figures_here", "_law_size", "_law_count"] (defScope s_l_turns) := ⟨rfl, rfl, rfl, by decide +kernel, rfl, by decide +kernel, by decide +kernel⟩
abbrev s_l_rests : Stmt := (top 35)
abbrev n_l_rests : List Str := ["_law_great", "_law_number_here", "_law_pool_here", "_law_modulus"]
theorem sc_l_rests : FnScope n_l_rests ["_law_great", "_law_number_here", "_law_pool_here"] (defScope s_l_rests) := ⟨rfl, rfl, rfl, by decide +kernel, rfl, by decide +kernel, by decide +kernel⟩
abbrev s_l_order : Stmt := (top 36)
abbrev n_l_order : List Str := ["_law_one", "_law_other", "_law_numbers"]
theorem sc_l_order : FnScope n_l_order ["_law_one", "_law_other", "_law_numbers"] (defScope s_l_order) := ⟨rfl, rfl, rfl, by decide +kernel, rfl, by decide +kernel, by decide +kernel⟩
abbrev s_l_no_order : Stmt := (top 37)
abbrev n_l_no_order : List Str := ["_law_one", "_law_other", "_law_sizes", "_law_told", "e"]
theorem sc_l_no_order : FnScope n_l_no_order ["_law_one", "_law_other", "_law_sizes"] (defScope s_l_no_order) := ⟨rfl, rfl, rfl, by decide +kernel, rfl, by decide +kernel, by decide +kernel⟩
abbrev s_law : Stmt := (top 38)
abbrev n_law : List Str := ["_law_script", "_law_k", "_law_pool_here", "_law_size", "_law_found", "_law_numbers", "_law_both", "_law_side", "_law_pieces_here", "_law_handed", "_law_great", "_law_figures_here", "_law_number_here", "_law_alone"]
theorem sc_law : FnScope n_law ["_law_script"] (defScope s_law) := ⟨rfl, rfl, rfl, by decide +kernel, rfl, by decide +kernel, by decide +kernel⟩
abbrev s_x_Unlike : Stmt := (inClass (top 5) 0)
abbrev n_x_Unlike : List Str := ["self", "one", "other"]
theorem sc_x_Unlike : FnScope n_x_Unlike ["self", "one", "other"] (defScope s_x_Unlike) := ⟨rfl, rfl, rfl, by decide +kernel, rfl, by decide +kernel, by decide +kernel⟩
def tab : Tab where
  cs := ["GreatNumber"]
  fl := ["own_size", "own_sign", "own_pieces"]
  xs := []
  xf := []
  bl := ["bool", "isinstance", "int", "tuple", "list", "len", "all", "enumerate", "sum", "range", "abs", "min", "max", "RuntimeError"]
  gl := ["is_integer", "is_between", "is_piece", "joined", "is_sign", "require_pieces", "is_row_like", "GreatNumber", "figure_at", "compared", "Unlike", "require_modulus", "block_of", "repeated", "_law_draw", "_law_number", "_law_integer", "_law_figures", "_law_is", "_law_pool", "_law_pieces", "_law_rests", "_law_turns", "_law_order", "_law_no_order", "law"]
  me := [("GreatNumber", "signed"), ("GreatNumber", "pieces"), ("GreatNumber", "order"), ("GreatNumber", "plain"), ("GreatNumber", "__getitem__"), ("GreatNumber", "__neg__"), ("GreatNumber", "__lshift__"), ("GreatNumber", "__abs__"), ("GreatNumber", "__eq__"), ("GreatNumber", "remainder"), ("GreatNumber", "__lt__")]
  ms := ["GreatNumber"]
  pr := [("GreatNumber", "figures"), ("GreatNumber", "number_sign"), ("GreatNumber", "base_size")]
def xsL : List String := ["Unlike"]
def exL : List (PySem.W.Frag → Bool) := [gintB "MOST_TIMES" (1000000000000000000000000000000), gintB "MOST_MODULUS" (1000000000000000000), oxB .re "Unlike", gintB "MOST_PLAIN" (1000), fnB "GreatNumber" "__getitem__", ownIB "GreatNumber" "lshift", bltB "GreatNumber" "__gt__" "object.__gt__", bltB "GreatNumber" "__ne__" "object.__ne__", nofB "Unlike" "other", nofB "Unlike" "one", crdB "GreatNumber", cmB "GreatNumber" "from_pieces", xmB xsL]
def exK (K : PySem.W.Frag) : Bool := exL.all fun b => b K
def df0 : Df := ⟨fun K => (gaS K "is_integer"), "is_integer", "is_integer", defArgs s_is_integer, defBody s_is_integer, defScope s_is_integer, []⟩
def df1 : Df := ⟨fun K => (gaS K "is_between"), "is_between", "is_between", defArgs s_is_between, defBody s_is_between, defScope s_is_between, []⟩
def df2 : Df := ⟨fun K => (gaS K "is_row_like"), "is_row_like", "is_row_like", defArgs s_is_row_like, defBody s_is_row_like, defScope s_is_row_like, []⟩
def df3 : Df := ⟨fun K => (gaS K "is_sign"), "is_sign", "is_sign", defArgs s_is_sign, defBody s_is_sign, defScope s_is_sign, []⟩
def df4 : Df := ⟨fun K => (gaS K "is_piece"), "is_piece", "is_piece", defArgs s_is_piece, defBody s_is_piece, defScope s_is_piece, []⟩
def df5 : Df := ⟨fun K => (gaS K "require_pieces"), "require_pieces", "require_pieces", defArgs s_require_pieces, defBody s_require_pieces, defScope s_require_pieces, []⟩
def df6 : Df := ⟨fun K => (gaS K "require_modulus"), "require_modulus", "require_modulus", defArgs s_require_modulus, defBody s_require_modulus, defScope s_require_modulus, []⟩
def df7 : Df := ⟨fun K => (gaS K "joined"), "joined", "joined", defArgs s_joined, defBody s_joined, defScope s_joined, []⟩
def df8 : Df := ⟨fun K => (gaS K "block_of"), "block_of", "block_of", defArgs s_block_of, defBody s_block_of, defScope s_block_of, []⟩
def df9 : Df := ⟨fun K => (gaS K "repeated"), "repeated", "repeated", defArgs s_repeated, defBody s_repeated, defScope s_repeated, []⟩
def df10 : Df := ⟨fun K => (gaS K "figure_at"), "figure_at", "figure_at", defArgs s_figure_at, defBody s_figure_at, defScope s_figure_at, []⟩
def df11 : Df := ⟨fun K => (maS K "GreatNumber" "__init__"), "__init__", "GreatNumber.__init__", defArgs s_GreatNumber___init__, defBody s_GreatNumber___init__, defScope s_GreatNumber___init__, []⟩
def df12 : Df := ⟨fun K => (cmS K "GreatNumber" "from_pieces"), "from_pieces", "GreatNumber.from_pieces", defArgs s_GreatNumber_from_pieces, defBody s_GreatNumber_from_pieces, defScope s_GreatNumber_from_pieces, []⟩
def df13 : Df := ⟨fun K => (prS K "GreatNumber" "base_size"), "base_size", "GreatNumber.base_size", defArgs s_GreatNumber_base_size, defBody s_GreatNumber_base_size, defScope s_GreatNumber_base_size, []⟩
def df14 : Df := ⟨fun K => (prS K "GreatNumber" "number_sign"), "number_sign", "GreatNumber.number_sign", defArgs s_GreatNumber_number_sign, defBody s_GreatNumber_number_sign, defScope s_GreatNumber_number_sign, []⟩
def df15 : Df := ⟨fun K => (prS K "GreatNumber" "figures"), "figures", "GreatNumber.figures", defArgs s_GreatNumber_figures, defBody s_GreatNumber_figures, defScope s_GreatNumber_figures, []⟩
def df16 : Df := ⟨fun K => (maS K "GreatNumber" "pieces"), "pieces", "GreatNumber.pieces", defArgs s_GreatNumber_pieces, defBody s_GreatNumber_pieces, defScope s_GreatNumber_pieces, []⟩
def df17 : Df := ⟨fun K => (maS K "GreatNumber" "__getitem__"), "__getitem__", "GreatNumber.__getitem__", defArgs s_GreatNumber___getitem__, defBody s_GreatNumber___getitem__, defScope s_GreatNumber___getitem__, []⟩
def df18 : Df := ⟨fun K => (maS K "GreatNumber" "signed"), "signed", "GreatNumber.signed", defArgs s_GreatNumber_signed, defBody s_GreatNumber_signed, defScope s_GreatNumber_signed, []⟩
def df19 : Df := ⟨fun K => (maS K "GreatNumber" "__lshift__"), "__lshift__", "GreatNumber.__lshift__", defArgs s_GreatNumber___lshift__, defBody s_GreatNumber___lshift__, defScope s_GreatNumber___lshift__, []⟩
def df20 : Df := ⟨fun K => (maS K "GreatNumber" "__neg__"), "__neg__", "GreatNumber.__neg__", defArgs s_GreatNumber___neg__, defBody s_GreatNumber___neg__, defScope s_GreatNumber___neg__, []⟩
def df21 : Df := ⟨fun K => (maS K "GreatNumber" "__abs__"), "__abs__", "GreatNumber.__abs__", defArgs s_GreatNumber___abs__, defBody s_GreatNumber___abs__, defScope s_GreatNumber___abs__, []⟩
def df22 : Df := ⟨fun K => (gaS K "compared"), "compared", "compared", defArgs s_compared, defBody s_compared, defScope s_compared, []⟩
def df23 : Df := ⟨fun K => (maS K "GreatNumber" "order"), "order", "GreatNumber.order", defArgs s_GreatNumber_order, defBody s_GreatNumber_order, defScope s_GreatNumber_order, []⟩
def df24 : Df := ⟨fun K => (maS K "GreatNumber" "__eq__"), "__eq__", "GreatNumber.__eq__", defArgs s_GreatNumber___eq__, defBody s_GreatNumber___eq__, defScope s_GreatNumber___eq__, []⟩
def df25 : Df := ⟨fun K => (maS K "GreatNumber" "__lt__"), "__lt__", "GreatNumber.__lt__", defArgs s_GreatNumber___lt__, defBody s_GreatNumber___lt__, defScope s_GreatNumber___lt__, []⟩
def df26 : Df := ⟨fun K => (maS K "GreatNumber" "remainder"), "remainder", "GreatNumber.remainder", defArgs s_GreatNumber_remainder, defBody s_GreatNumber_remainder, defScope s_GreatNumber_remainder, []⟩
def df27 : Df := ⟨fun K => (maS K "GreatNumber" "plain"), "plain", "GreatNumber.plain", defArgs s_GreatNumber_plain, defBody s_GreatNumber_plain, defScope s_GreatNumber_plain, []⟩
def df28 : Df := ⟨fun K => (gaS K "_law_pool"), "_law_pool", "_law_pool", defArgs s_l_pool, defBody s_l_pool, defScope s_l_pool, []⟩
def df29 : Df := ⟨fun K => (gaS K "_law_draw"), "_law_draw", "_law_draw", defArgs s_l_draw, defBody s_l_draw, defScope s_l_draw, []⟩
def df30 : Df := ⟨fun K => (gaS K "_law_pieces"), "_law_pieces", "_law_pieces", defArgs s_l_pieces, defBody s_l_pieces, defScope s_l_pieces, []⟩
def df31 : Df := ⟨fun K => (gaS K "_law_figures"), "_law_figures", "_law_figures", defArgs s_l_figures, defBody s_l_figures, defScope s_l_figures, []⟩
def df32 : Df := ⟨fun K => (gaS K "_law_number"), "_law_number", "_law_number", defArgs s_l_number, defBody s_l_number, defScope s_l_number, []⟩
def df33 : Df := ⟨fun K => (gaS K "_law_integer"), "_law_integer", "_law_integer", defArgs s_l_integer, defBody s_l_integer, defScope s_l_integer, []⟩
def df34 : Df := ⟨fun K => (gaS K "_law_is"), "_law_is", "_law_is", defArgs s_l_is, defBody s_l_is, defScope s_l_is, []⟩
def df35 : Df := ⟨fun K => (gaS K "_law_turns"), "_law_turns", "_law_turns", defArgs s_l_turns, defBody s_l_turns, defScope s_l_turns, []⟩
def df36 : Df := ⟨fun K => (gaS K "_law_rests"), "_law_rests", "_law_rests", defArgs s_l_rests, defBody s_l_rests, defScope s_l_rests, []⟩
def df37 : Df := ⟨fun K => (gaS K "_law_order"), "_law_order", "_law_order", defArgs s_l_order, defBody s_l_order, defScope s_l_order, []⟩
def df38 : Df := ⟨fun K => (gaS K "_law_no_order"), "_law_no_order", "_law_no_order", defArgs s_l_no_order, defBody s_l_no_order, defScope s_l_no_order, []⟩
def df39 : Df := ⟨fun K => (gaS K "law"), "law", "law", defArgs s_law, defBody s_law, defScope s_law, []⟩
def df40 : Df := ⟨fun K => (maS K "Unlike" "__init__"), "__init__", "Unlike.__init__", defArgs s_x_Unlike, defBody s_x_Unlike, defScope s_x_Unlike, []⟩
def fns : List Df := [df0, df1, df2, df3, df4, df5, df6, df7, df8, df9, df10, df11, df12, df13, df14, df15, df16, df17, df18, df19, df20, df21, df22, df23, df24, df25, df26, df27, df28, df29, df30, df31, df32, df33, df34, df35, df36, df37, df38, df39, df40]
section
variable {K : PySem.W.Frag} {mg : Str → Option Value}
theorem exf (T : Tx tab exK fns K mg) (i : Nat) {b : PySem.W.Frag → Bool} (h : exL[i]? = some b := by rfl) : b K = true := List.all_eq_true.mp T.c.ext b (mem_ix i h)
def GG (T : Tx tab exK fns K mg) : Ga := mkG T.tab.G xsL (xmB_ok (exf T 12))
theorem stbG (T : Tx tab exK fns K mg) : (GG T).Stb := fun _ _ _ _ _ _ => trivial
theorem jvG (T : Tx tab exK fns K mg) : ∀ F ad σ, (GG T).jv F ad σ := fun _ _ _ => trivial
end
section
variable {P : Program} {w : World} {K : PySem.W.Frag} {mg : Str → Option Value} {base : Heap}
theorem ok_x_Unlike (T : Tx tab exK fns K mg) : ∃ fd, FnOk P w K mg base CX0 1 (maS K "Unlike" "__init__") fd ["self", "one", "other"] (spExc2 (Str.ofString "one") (Str.ofString "other") (gaS K "Unlike")) ∧ Binds K fd ["self", "one", "other"] [] := by
  obtain ⟨fd, F⟩ := T.c.def_ 40
  refine ⟨fd, fund_ok0 F sc_x_Unlike (fun vs H Q E h => ?_) (fun cdv A outer s H vs Q E hr h => ?_), F.bindsN (fun _ _ _ _ _ _ us hl => match us, hl with | [_, _, _], _ => rfl)⟩
  · obtain ⟨a, v0, v1, rfl, _⟩ := h
    rfl
  · obtain ⟨a, v0, v1, rfl, ha, q⟩ := h
    refine ⟨_, pss_cons (ps_expr (pe_xinit (pl := _) (Bk.ok .re) (by rfl) (T.bl 13) (oxB_ok (k := .re) (c := "Unlike") (exf T 2)).ve (pa_cons (pv 0) (pa_cons pe_str pa_nil)))) (pss_cons (ps_xst (Bk.ok .re) (pv 0) (pv 1)) (pss_one (ps_xst (Bk.ok .re) (pv 0) (pv 2)))), ?_⟩
    refine ⟨_, rfl, a, _, _, rfl, (by decide), (oxB_ok (k := .re) (c := "Unlike") (exf T 2)).oex, ha, ?_⟩
    refine ⟨_, rfl, _, rfl, a, _, rfl, (oxB_ok (k := .re) (c := "Unlike") (exf T 2)).oex, (eqI_of (exf T 9)), .inl ⟨ha, fun dx hd ne => ?_⟩⟩
    refine ⟨_, rfl, _, rfl, a, _, rfl, (oxB_ok (k := .re) (c := "Unlike") (exf T 2)).oex, (eqI_of (exf T 8)), .inr ⟨dx, _, upd_same, by rw [upd_ne ne, upd_same], by simp, q dx hd ne⟩⟩
noncomputable abbrev b_is_integer : MS := (mRet (mAnd (mCB oIsi (mCons (mVar 0) (mCons (mC (.ty "int")) mNil))) (mUn oNot (mCB oIsi (mCons (mVar 0) (mCons (mC (.ty "bool")) mNil))))))
noncomputable def m_is_integer : MF := mFun 1 1 b_is_integer
theorem ok_is_integer (T : Tx tab exK fns K mg) : OkB P w K mg base 1 (gaS K "is_integer") ["value"] [] (spM (GG T) m_is_integer) :=
  okb_mk (T.c.def_ 0) (fun _ _ _ _ _ _ us hl => match us, hl with | [_], _ => rfl) fun fd F => fn_m (G := (GG T)) F sc_is_integer rfl (jvG T) fun cdv A outer s H E hr =>
    have tk : Takes (cxOf (L2.CX P w) P w K mg base n_is_integer "is_integer" (defScope s_is_integer) (gaS K "is_integer") cdv A outer s H E) (fun cls d _ H' => E cls d H') := takes_of rfl rfl rfl rfl
    (dss_one (ds_ret (de_and (de_cb (id := "isinstance") (cr_isi rfl) sim_isi (by rfl) (T.bl 1) (by decide +kernel) (da_cons (de_v (pv 0)) (da_cons (de_c (pe_bltn (v := .ty "int") (by rfl) (T.bl 2) (by decide +kernel) rfl) (fun _ => .ty "int")) da_nil))) (de_one (de_not (de_cb (id := "isinstance") (cr_isi rfl) sim_isi (by rfl) (T.bl 1) (by decide +kernel) (da_cons (de_v (pv 0)) (da_cons (de_c (pe_bltn (v := .ty "bool") (by rfl) (T.bl 0) (by decide +kernel) rfl) (fun _ => .ty "bool")) da_nil))))))))
noncomputable abbrev b_is_between : MS := (mRet (mAnd (mCall (withD [] (pureF m_is_integer)) (mCons (mVar 0) mNil)) (mChain oLe oLe (mVar 1) (mVar 0) (mVar 2))))
noncomputable def m_is_between : MF := mFun 3 3 b_is_between
theorem ok_is_between (T : Tx tab exK fns K mg) : OkB P w K mg base 2 (gaS K "is_between") ["value", "least", "greatest"] [] (spM (GG T) m_is_between) :=
  okb_mk (T.c.def_ 1) (fun _ _ _ _ _ _ us hl => match us, hl with | [_, _, _], _ => rfl) fun fd F => fn_m (G := (GG T)) F sc_is_between rfl (jvG T) fun cdv A outer s H E hr =>
    have tk : Takes (cxOf (L2.CX P w) P w K mg base n_is_between "is_between" (defScope s_is_between) (gaS K "is_between") cdv A outer s H E) (fun cls d _ H' => E cls d H') := takes_of rfl rfl rfl rfl
    (dss_one (ds_ret (de_and (ck_pcall (ok_is_integer T) dfl_nil (hr.mono (by decide)) (by rfl) (T.gl 0) tk (da_cons (de_v (pv 0)) da_nil)) (de_one (de_chain op_le op_le sim_le sim_le (de_v (pv 1)) (de_v (pv 0)) (de_v (pv 2)))))))
noncomputable abbrev b_is_row_like : MS := (mRet (mIsiLT (mVar 0)))
noncomputable def m_is_row_like : MF := mFun 1 1 b_is_row_like
theorem ok_is_row_like (T : Tx tab exK fns K mg) : OkB P w K mg base 1 (gaS K "is_row_like") ["value"] [] (spM (GG T) m_is_row_like) :=
  okb_mk (T.c.def_ 2) (fun _ _ _ _ _ _ us hl => match us, hl with | [_], _ => rfl) fun fd F => fn_m (G := (GG T)) F sc_is_row_like rfl (jvG T) fun cdv A outer s H E hr =>
    have tk : Takes (cxOf (L2.CX P w) P w K mg base n_is_row_like "is_row_like" (defScope s_is_row_like) (gaS K "is_row_like") cdv A outer s H E) (fun cls d _ H' => E cls d H') := takes_of rfl rfl rfl rfl
    (dss_one (ds_ret (de_isiLT rfl (by rfl) (T.bl 1) (by decide +kernel) (de_v (pv 0)) (pe_bltn (v := .ty "list") (by rfl) (T.bl 4) (by decide +kernel) rfl) (pe_bltn (v := .ty "tuple") (by rfl) (T.bl 3) (by decide +kernel) rfl))))
noncomputable abbrev b_is_sign : MS := (mRet (mAnd (mCall (withD [] (pureF m_is_integer)) (mCons (mVar 0) mNil)) (mBin oIn (mVar 0) (mTup (mCons (mUn oNeg (mC (.int 1))) (mCons (mC (.int 1)) mNil))))))
noncomputable def m_is_sign : MF := mFun 1 1 b_is_sign
theorem ok_is_sign (T : Tx tab exK fns K mg) : OkB P w K mg base 2 (gaS K "is_sign") ["value"] [] (spM (GG T) m_is_sign) :=
  okb_mk (T.c.def_ 3) (fun _ _ _ _ _ _ us hl => match us, hl with | [_], _ => rfl) fun fd F => fn_m (G := (GG T)) F sc_is_sign rfl (jvG T) fun cdv A outer s H E hr =>
    have tk : Takes (cxOf (L2.CX P w) P w K mg base n_is_sign "is_sign" (defScope s_is_sign) (gaS K "is_sign") cdv A outer s H E) (fun cls d _ H' => E cls d H') := takes_of rfl rfl rfl rfl
    (dss_one (ds_ret (de_and (ck_pcall (ok_is_integer T) dfl_nil (hr.mono (by decide)) (by rfl) (T.gl 0) tk (da_cons (de_v (pv 0)) da_nil)) (de_one (de_cmp (op_in' rfl) (sim_inN (neg := false)) (de_v (pv 0)) (de_tup (da_cons (de_neg de_int) (da_cons de_int da_nil))) (by rfl))))))
noncomputable abbrev le0_is_piece : ME := (mCall (withD [] (pureF m_is_between)) (mCons (mVar 2) (mCons (mC (.int 0)) (mCons (mBin oSub (mVar 1) (mC (.int 1))) mNil))))
noncomputable abbrev b_is_piece : MS := (mSeq (mIfS (mOrT (mNotT (mTru (mCB oIsi (mCons (mVar 0) (mCons (mC (.ty "tuple")) mNil))))) (mOrT (mTst (mBin oNe (mCB oLen (mCons (mVar 0) mNil)) (mC (.int 2)))) (mNotT (mTru (mCB oIsi (mCons (mBin oIx (mVar 0) (mC (.int 0))) (mCons (mC (.ty "tuple")) mNil))))))) (mRet (mC (.bl false))) mSkip)
      (mSeq (mIfS (mOrT (mNotT (mTst (mChain oLe oLe (mC (.int 1)) (mCB oLen (mCons (mBin oIx (mVar 0) (mC (.int 0))) mNil)) (mC (.int 60))))) (mNotT (mTru (mCall (withD [] (pureF m_is_between)) (mCons (mBin oIx (mVar 0) (mC (.int 1))) (mCons (mC (.int 1)) (mCons (mC (.int (1000000000000000000000000000000))) mNil))))))) (mRet (mC (.bl false))) mSkip)
      (mRet (mCB oAll (mCons (mLc [2] (mItS (mBin oIx (mVar 0) (mC (.int 0)))) (gN 2) mYes le0_is_piece) mNil)))))
noncomputable def m_is_piece : MF := mFun 2 3 b_is_piece
theorem ok_is_piece (T : Tx tab exK fns K mg) : OkB P w K mg base 3 (gaS K "is_piece") ["value", "size"] [] (spM (GG T) m_is_piece) :=
  okb_mk (T.c.def_ 4) (fun _ _ _ _ _ _ us hl => match us, hl with | [_, _], _ => rfl) fun fd F => fn_m (G := (GG T)) F sc_is_piece rfl (jvG T) fun cdv A outer s H E hr =>
    have tk : Takes (cxOf (L2.CX P w) P w K mg base n_is_piece "is_piece" (defScope s_is_piece) (gaS K "is_piece") cdv A outer s H E) (fun cls d _ H' => E cls d H') := takes_of rfl rfl rfl rfl
    (dss_cons (ds_if (DW.dt (dw_or (dt_not (dt_tru rfl (de_cb (id := "isinstance") (cr_isi rfl) sim_isi (by rfl) (T.bl 1) (by decide +kernel) (da_cons (de_v (pv 0)) (da_cons (de_c (pe_bltn (v := .ty "tuple") (by rfl) (T.bl 3) (by decide +kernel) rfl) (fun _ => .ty "tuple")) da_nil))))) (dw_or (dt_cmp (op_ne' rfl hr.units) sim_ne (de_cb (id := "len") (cr_len rfl) sim_len (by rfl) (T.bl 5) (by decide +kernel) (da_cons (de_v (pv 0)) da_nil)) de_int (nomark _)) (dw_or1 (dt_not (dt_tru rfl (de_cb (id := "isinstance") (cr_isi rfl) sim_isi (by rfl) (T.bl 1) (by decide +kernel) (da_cons (de_ix rfl (de_v (pv 0)) de_int (fun _ _ => rfl)) (da_cons (de_c (pe_bltn (v := .ty "tuple") (by rfl) (T.bl 3) (by decide +kernel) rfl) (fun _ => .ty "tuple")) da_nil))))))))) (dss_one (ds_ret de_bl)) dss_nil)
      (dss_cons (ds_if (DW.dt (dw_or (dt_not (dt_chain (fun a b c => pt_chain op_le op_le a b c) sim_le sim_le de_int (de_cb (id := "len") (cr_len rfl) sim_len (by rfl) (T.bl 5) (by decide +kernel) (da_cons (de_ix rfl (de_v (pv 0)) de_int (fun _ _ => rfl)) da_nil)) de_int)) (dw_or1 (dt_not (dt_tru rfl (ck_pcall (ok_is_between T) dfl_nil (hr.mono (by decide)) (by rfl) (T.gl 1) tk (da_cons (de_ix rfl (de_v (pv 0)) de_int (fun _ _ => rfl)) (da_cons de_int (da_cons (de_gint (by rfl) (gint_of T (exf T 0))) da_nil))))))))) (dss_one (ds_ret de_bl)) dss_nil)
      (dss_one (ds_ret (de_cb (id := "all") (cr_all' rfl (by rfl)) sim_all (by rfl) (T.bl 6) (by decide +kernel) (da_cons (de_lc (own := [("figure", 2)]) (stbG T) (by rfl) sc_is_piece.nd (by exact (di_seq rfl (de_ix rfl (de_v (pv 0)) de_int (fun _ _ => rfl)))) (blkOk_by (own := [("figure", 2)]) (N := n_is_piece) (sc := defScope s_is_piece) (by decide +kernel)) (fun _ => by exact (dg_name (stbG T) (mem_ix 0) (pg_name (i := 2) sc_is_piece.nd rfl (Or.inl rfl)))) (fun _ => by exact dts_nil) (fun _ => by exact (ck_pcall (ok_is_between T) dfl_nil (hr.mono (by decide)) (by rfl) (T.gl 1) takes0 (da_cons (de_v (pv 2)) (da_cons de_int (da_cons (de_op op_sub sim_sub (de_v (pv 1)) de_int) da_nil)))))) da_nil))))))
noncomputable abbrev lf0_require_pieces : MS := (mIfS (mNotT (mTru (mCall (withD [] (pureF m_is_piece)) (mCons (mVar 3) (mCons (mVar 1) mNil))))) mBad mSkip)
noncomputable abbrev b_require_pieces : MS := (mSeq (mFor (mItE (mCons (mVar 0) mNil)) (gT 2 (gsC (gN 2) (gsC (gN 3) gsN)))
      lf0_require_pieces)
      (mIfS (mAndT (mTst (mBin oGt (mCB oLen (mCons (mVar 0) mNil)) (mC (.int 0)))) (mTst (mBin oEq (mBin oIx (mBin oIx (mBin oIx (mVar 0) (mUn oNeg (mC (.int 1)))) (mC (.int 0))) (mUn oNeg (mC (.int 1)))) (mC (.int 0))))) mBad mSkip))
noncomputable def m_require_pieces : MF := mFun 2 4 b_require_pieces
theorem ok_require_pieces (T : Tx tab exK fns K mg) : OkB P w K mg base 4 (gaS K "require_pieces") ["pieces", "size"] [] (spM (GG T) m_require_pieces) :=
  okb_mk (T.c.def_ 5) (fun _ _ _ _ _ _ us hl => match us, hl with | [_, _], _ => rfl) fun fd F => fn_m (G := (GG T)) F sc_require_pieces rfl (jvG T) fun cdv A outer s H E hr =>
    have tk : Takes (cxOf (L2.CX P w) P w K mg base n_require_pieces "require_pieces" (defScope s_require_pieces) (gaS K "require_pieces") cdv A outer s H E) (fun cls d _ H' => E cls d H') := takes_of rfl rfl rfl rfl
    (dss_cons (ds_for (vs := [2, 3]) (passes_of rfl) (by rfl) (di_enum rfl (fun p => pi_enumA (by rfl) (T.bl 7) p) (da_cons (de_v (pv 0)) da_nil)) (dg_tup (n := 2) rfl (by rfl) (dgs_cons (dg_name (stbG T) (mem_ix 0) (pg_name (i := 2) sc_require_pieces.nd rfl (Or.inl rfl))) (dgs_cons (dg_name (stbG T) (mem_ix 1) (pg_name (i := 3) sc_require_pieces.nd rfl (Or.inl rfl))) dgs_nil)))
      (dss_one (ds_if (dt_not (dt_tru rfl (ck_pcall (ok_is_piece T) dfl_nil (hr.mono (by decide)) (by rfl) (T.gl 2) tk (da_cons (de_v (pv 3)) (da_cons (de_v (pv 1)) da_nil))))) (dss_one (ds_never ps_never)) dss_nil)))
      (dss_one (ds_if (DW.dt (dw_and (dt_cmp op_gt sim_gt (de_cb (id := "len") (cr_len rfl) sim_len (by rfl) (T.bl 5) (by decide +kernel) (da_cons (de_v (pv 0)) da_nil)) de_int (nomark _)) (dw_and1 (dt_cmp (op_eq' rfl hr.units) sim_eq (de_ix rfl (de_ix rfl (de_ix rfl (de_v (pv 0)) (de_neg de_int) (fun _ _ => rfl)) de_int (fun _ _ => rfl)) (de_neg de_int) (fun _ _ => rfl)) de_int (nomark _))))) (dss_one (ds_never ps_never)) dss_nil)))
noncomputable abbrev b_require_modulus : MS := (mIfS (mNotT (mTru (mCall (withD [] (pureF m_is_between)) (mCons (mVar 0) (mCons (mC (.int 1)) (mCons (mC (.int (1000000000000000000))) mNil)))))) mBad mSkip)
noncomputable def m_require_modulus : MF := mFun 1 1 b_require_modulus
theorem ok_require_modulus (T : Tx tab exK fns K mg) : OkB P w K mg base 3 (gaS K "require_modulus") ["modulus"] [] (spM (GG T) m_require_modulus) :=
  okb_mk (T.c.def_ 6) (fun _ _ _ _ _ _ us hl => match us, hl with | [_], _ => rfl) fun fd F => fn_m (G := (GG T)) F sc_require_modulus rfl (jvG T) fun cdv A outer s H E hr =>
    have tk : Takes (cxOf (L2.CX P w) P w K mg base n_require_modulus "require_modulus" (defScope s_require_modulus) (gaS K "require_modulus") cdv A outer s H E) (fun cls d _ H' => E cls d H') := takes_of rfl rfl rfl rfl
    (dss_one (ds_if (dt_not (dt_tru rfl (ck_pcall (ok_is_between T) dfl_nil (hr.mono (by decide)) (by rfl) (T.gl 1) tk (da_cons (de_v (pv 0)) (da_cons de_int (da_cons (de_gint (by rfl) (gint_of T (exf T 1))) da_nil)))))) (dss_one (ds_never ps_never)) dss_nil))
noncomputable abbrev b_joined : MS := (mRet (mTup (mCons (mBin oMod (mBin oAdd (mBin oIx (mVar 0) (mC (.int 0))) (mBin oMul (mBin oIx (mVar 0) (mC (.int 1))) (mBin oIx (mVar 1) (mC (.int 0))))) (mVar 2)) (mCons (mBin oMod (mBin oMul (mBin oIx (mVar 0) (mC (.int 1))) (mBin oIx (mVar 1) (mC (.int 1)))) (mVar 2)) mNil))))
noncomputable def m_joined : MF := mFun 3 3 b_joined
theorem ok_joined (T : Tx tab exK fns K mg) : OkB P w K mg base 1 (gaS K "joined") ["one", "other", "modulus"] [] (spM (GG T) m_joined) :=
  okb_mk (T.c.def_ 7) (fun _ _ _ _ _ _ us hl => match us, hl with | [_, _, _], _ => rfl) fun fd F => fn_m (G := (GG T)) F sc_joined rfl (jvG T) fun cdv A outer s H E hr =>
    have tk : Takes (cxOf (L2.CX P w) P w K mg base n_joined "joined" (defScope s_joined) (gaS K "joined") cdv A outer s H E) (fun cls d _ H' => E cls d H') := takes_of rfl rfl rfl rfl
    (dss_one (ds_ret (de_tup (da_cons (de_op op_modN sim_mod (de_op (op_adds rfl) sim_add (de_ix rfl (de_v (pv 0)) de_int (fun _ _ => rfl)) (de_op op_muls sim_mul (de_ix rfl (de_v (pv 0)) de_int (fun _ _ => rfl)) (de_ix rfl (de_v (pv 1)) de_int (fun _ _ => rfl)))) (de_v (pv 2))) (da_cons (de_op op_modN sim_mod (de_op op_muls sim_mul (de_ix rfl (de_v (pv 0)) de_int (fun _ _ => rfl)) (de_ix rfl (de_v (pv 1)) de_int (fun _ _ => rfl))) (de_v (pv 2))) da_nil)))))
noncomputable abbrev lf0_block_of : MS := (mAsg (mCall (withD [] (pureF m_joined)) (mCons (mVar 3) (mCons (mTup (mCons (mVar 4) (mCons (mVar 1) mNil))) (mCons (mVar 2) mNil)))) (gN 3))
noncomputable abbrev b_block_of : MS := (mSeq (mAsg (mTup (mCons (mC (.int 0)) (mCons (mBin oMod (mC (.int 1)) (mVar 2)) mNil))) (gN 3))
      (mSeq (mFor (mItS (mVar 0)) (gN 4)
      lf0_block_of)
      (mRet (mVar 3))))
noncomputable def m_block_of : MF := mFun 3 5 b_block_of
theorem ok_block_of (T : Tx tab exK fns K mg) : OkB P w K mg base 2 (gaS K "block_of") ["word", "size", "modulus"] [] (spM (GG T) m_block_of) :=
  okb_mk (T.c.def_ 8) (fun _ _ _ _ _ _ us hl => match us, hl with | [_, _, _], _ => rfl) fun fd F => fn_m (G := (GG T)) F sc_block_of rfl (jvG T) fun cdv A outer s H E hr =>
    have tk : Takes (cxOf (L2.CX P w) P w K mg base n_block_of "block_of" (defScope s_block_of) (gaS K "block_of") cdv A outer s H E) (fun cls d _ H' => E cls d H') := takes_of rfl rfl rfl rfl
    (dss_cons (ds_set (i := 3) (stbG T) (fun p => ps_set (i := 3) sc_block_of.nd rfl (Or.inl rfl) p) (de_tup (da_cons de_int (da_cons (de_op op_modN sim_mod de_int (de_v (pv 2))) da_nil))))
      (dss_cons (ds_for (vs := [4]) (passes_of rfl) (by rfl) (di_seq rfl (de_v (pv 0))) (dg_name (stbG T) (mem_ix 0) (pg_name (i := 4) sc_block_of.nd rfl (Or.inl rfl)))
      (dss_one (ds_set (i := 3) (stbG T) (fun p => ps_set (i := 3) sc_block_of.nd rfl (Or.inl rfl) p) (ck_pcall (ok_joined T) dfl_nil (hr.mono (by decide)) (by rfl) (T.gl 3) tk (da_cons (de_v (pv 3)) (da_cons (de_tup (da_cons (de_v (pv 4)) (da_cons (de_v (pv 1)) da_nil))) (da_cons (de_v (pv 2)) da_nil)))))))
      (dss_one (ds_ret (de_v (pv 3))))))
noncomputable abbrev lw0_repeated : MS := (mSeq (mIfS (mTst (mBin oEq (mBin oAnd1 (mVar 1) (mC (.int 1))) (mC (.int 1)))) (mAsg (mCall (withD [] (pureF m_joined)) (mCons (mVar 3) (mCons (mVar 0) (mCons (mVar 2) mNil)))) (gN 3)) mSkip)
      (mSeq (mAsg (mCall (withD [] (pureF m_joined)) (mCons (mVar 0) (mCons (mVar 0) (mCons (mVar 2) mNil)))) (gN 0))
      (mAug 1 oHalf (mC (.int 1)))))
noncomputable abbrev lc1_repeated : MT := (mTst (mBin oGt (mVar 1) (mC (.int 0))))
noncomputable abbrev b_repeated : MS := (mSeq (mAsg (mTup (mCons (mC (.int 0)) (mCons (mBin oMod (mC (.int 1)) (mVar 2)) mNil))) (gN 3))
      (mSeq (mWhile lc1_repeated
      lw0_repeated)
      (mRet (mVar 3))))
noncomputable def m_repeated : MF := mFun 3 4 b_repeated
theorem ok_repeated (T : Tx tab exK fns K mg) : OkB P w K mg base 2 (gaS K "repeated") ["block", "times", "modulus"] [] (spM (GG T) m_repeated) :=
  okb_mk (T.c.def_ 9) (fun _ _ _ _ _ _ us hl => match us, hl with | [_, _, _], _ => rfl) fun fd F => fn_m (G := (GG T)) F sc_repeated rfl (jvG T) fun cdv A outer s H E hr =>
    have tk : Takes (cxOf (L2.CX P w) P w K mg base n_repeated "repeated" (defScope s_repeated) (gaS K "repeated") cdv A outer s H E) (fun cls d _ H' => E cls d H') := takes_of rfl rfl rfl rfl
    (dss_cons (ds_set (i := 3) (stbG T) (fun p => ps_set (i := 3) sc_repeated.nd rfl (Or.inl rfl) p) (de_tup (da_cons de_int (da_cons (de_op op_modN sim_mod de_int (de_v (pv 2))) da_nil))))
      (dss_cons (ds_while (passes_of rfl) (dt_cmp op_gt sim_gt (de_v (pv 1)) de_int (nomark _))
      (dss_cons (ds_if (dt_cmp (op_eq' rfl hr.units) sim_eq (de_op op_odd sim_and1 (de_v (pv 1)) de_int) de_int (nomark _)) (dss_one (ds_set (i := 3) (stbG T) (fun p => ps_set (i := 3) sc_repeated.nd rfl (Or.inl rfl) p) (ck_pcall (ok_joined T) dfl_nil (hr.mono (by decide)) (by rfl) (T.gl 3) tk (da_cons (de_v (pv 3)) (da_cons (de_v (pv 0)) (da_cons (de_v (pv 2)) da_nil)))))) dss_nil)
      (dss_cons (ds_set (i := 0) (stbG T) (fun p => ps_set (i := 0) sc_repeated.nd rfl (Or.inl rfl) p) (ck_pcall (ok_joined T) dfl_nil (hr.mono (by decide)) (by rfl) (T.gl 3) tk (da_cons (de_v (pv 0)) (da_cons (de_v (pv 0)) (da_cons (de_v (pv 2)) da_nil)))))
      (dss_one (ds_aug (i := 1) (stbG T) sim_half (fun p => ps_aug (i := 1) sc_repeated.nd rfl (Or.inl rfl) p iop_halfI) de_int)))))
      (dss_one (ds_ret (de_v (pv 3))))))
noncomputable abbrev b_figure_at : MS := (mRet (mBin oIx (mBin oIx (mVar 0) (mC (.int 0))) (mBin oMod (mBin oSub (mBin oSub (mVar 1) (mC (.int 1))) (mVar 2)) (mCB oLen (mCons (mBin oIx (mVar 0) (mC (.int 0))) mNil)))))
noncomputable def m_figure_at : MF := mFun 3 3 b_figure_at
theorem ok_figure_at (T : Tx tab exK fns K mg) : OkB P w K mg base 1 (gaS K "figure_at") ["piece", "rest", "depth"] [] (spM (GG T) m_figure_at) :=
  okb_mk (T.c.def_ 10) (fun _ _ _ _ _ _ us hl => match us, hl with | [_, _, _], _ => rfl) fun fd F => fn_m (G := (GG T)) F sc_figure_at rfl (jvG T) fun cdv A outer s H E hr =>
    have tk : Takes (cxOf (L2.CX P w) P w K mg base n_figure_at "figure_at" (defScope s_figure_at) (gaS K "figure_at") cdv A outer s H E) (fun cls d _ H' => E cls d H') := takes_of rfl rfl rfl rfl
    (dss_one (ds_ret (de_ix rfl (de_ix rfl (de_v (pv 0)) de_int (fun _ _ => rfl)) (de_op op_modN sim_mod (de_op op_sub sim_sub (de_op op_sub sim_sub (de_v (pv 1)) de_int) (de_v (pv 2))) (de_cb (id := "len") (cr_len rfl) sim_len (by rfl) (T.bl 5) (by decide +kernel) (da_cons (de_ix rfl (de_v (pv 0)) de_int (fun _ _ => rfl)) da_nil))) (fun _ _ => rfl))))
noncomputable abbrev b_GreatNumber___init__ : MS := (mSeq (mIfS (mNotT (mTru (mCall (withD [] (pureF m_is_between)) (mCons (mVar 1) (mCons (mC (.int 2)) (mCons (mC (.int 10)) mNil)))))) mBad mSkip)
      (mSeq (mIfS (mNotT (mTru (mCall (withD [] (pureF m_is_sign)) (mCons (mVar 2) mNil)))) mBad mSkip)
      (mSeq (mExpr (mCall (withD [] (pureF m_require_pieces)) (mCons (mVar 3) (mCons (mVar 1) mNil))))
      (mSeq (mSetF "own_size" (mVar 0) (mVar 1))
      (mSeq (mSetF "own_sign" (mVar 0) (mIf (mTst (mBin oGt (mCB oLen (mCons (mVar 3) mNil)) (mC (.int 0)))) (mVar 2) (mC (.int 0))))
      (mSetF "own_pieces" (mVar 0) (mVar 3)))))))
noncomputable def m_GreatNumber___init__ : MF := mStarF 3 (mFun 4 4 b_GreatNumber___init__)
theorem ok_GreatNumber___init__ (T : Tx tab exK fns K mg) : OkR P w K mg base 5 (maS K "GreatNumber" "__init__") (spM (GG T) m_GreatNumber___init__) := by
  obtain ⟨fd, F⟩ := T.c.def_ 11
  exact fnS_m (G := (GG T)) (ps := ["self", "size", "sign"]) (pv := "pieces") F sc_GreatNumber___init__ rfl (jvG T) (fun _ _ _ _ _ _ us rest hl => match us, hl, rest with
    | [_, _, _], _, [] => rfl
    | [_, _, _], _, _ :: _ => rfl) fun cdv A outer s H E hr =>
    have tk : Takes (cxOf (L2.CX P w) P w K mg base n_GreatNumber___init__ "GreatNumber.__init__" (defScope s_GreatNumber___init__) (maS K "GreatNumber" "__init__") cdv A outer s H E) (fun cls d _ H' => E cls d H') := takes_of rfl rfl rfl rfl
    (dss_cons (ds_if (dt_not (dt_tru rfl (ck_pcall (ok_is_between T) dfl_nil (hr.mono (by decide)) (by rfl) (T.gl 1) tk (da_cons (de_v (pv 1)) (da_cons de_int (da_cons de_int da_nil)))))) (dss_one (ds_never ps_never)) dss_nil)
      (dss_cons (ds_if (dt_not (dt_tru rfl (ck_pcall (ok_is_sign T) dfl_nil (hr.mono (by decide)) (by rfl) (T.gl 4) tk (da_cons (de_v (pv 2)) da_nil)))) (dss_one (ds_never ps_never)) dss_nil)
      (dss_cons (ds_expr (fun p => ps_expr p) (ck_pcall (ok_require_pieces T) dfl_nil (hr.mono (by decide)) (by rfl) (T.gl 5) tk (da_cons (de_v (pv 3)) (da_cons (de_v (pv 1)) da_nil))))
      (dss_cons (ds_setF (f := "own_size") rfl (T.fl 0) (de_v (pv 0)) (de_v (pv 1)) rfl)
      (dss_cons (ds_setF (f := "own_sign") rfl (T.fl 1) (de_v (pv 0)) (de_if (dt_cmp op_gt sim_gt (de_cb (id := "len") (cr_len rfl) sim_len (by rfl) (T.bl 5) (by decide +kernel) (da_cons (de_v (pv 3)) da_nil)) de_int (nomark _)) (de_v (pv 2)) de_int) rfl)
      (dss_one (ds_setF (f := "own_pieces") rfl (T.fl 2) (de_v (pv 0)) (de_v (pv 3)) rfl)))))))
noncomputable abbrev b_GreatNumber_from_pieces : MS := (mSeq (mIfS (mNotT (mTru (mCall (withD [] m_is_row_like) (mCons (mVar 3) mNil)))) mBad mSkip)
      (mRet (mVarC 0 "GreatNumber" (mCall (makeP "GreatNumber" m_GreatNumber___init__) (mCons (mVar 1) (mCons (mVar 2) (mStar (mVar 3) mNil)))))))
noncomputable def m_GreatNumber_from_pieces : MF := mFun 4 4 b_GreatNumber_from_pieces
theorem ok_GreatNumber_from_pieces (T : Tx tab exK fns K mg) : OkB P w K mg base 7 (cmS K "GreatNumber" "from_pieces") ["cls", "size", "sign", "pieces"] [] (spM (GG T) m_GreatNumber_from_pieces) :=
  okb_mk (T.c.def_ 12) (fun _ _ _ _ _ _ us hl => match us, hl with | [_, _, _, _], _ => rfl) fun fd F => fn_m (G := (GG T)) F sc_GreatNumber_from_pieces rfl (jvG T) fun cdv A outer s H E hr =>
    have tk : Takes (cxOf (L2.CX P w) P w K mg base n_GreatNumber_from_pieces "GreatNumber.from_pieces" (defScope s_GreatNumber_from_pieces) (cmS K "GreatNumber" "from_pieces") cdv A outer s H E) (fun cls d _ H' => E cls d H') := takes_of rfl rfl rfl rfl
    (dss_cons (ds_if (dt_not (dt_tru rfl (ck_call (ok_is_row_like T) dfl_nil (hr.mono (by decide)) (by rfl) (T.gl 6) tk (da_cons (de_v (pv 3)) da_nil)))) (dss_one (ds_never ps_never)) dss_nil)
      (dss_one (ds_ret (ck_makeV (i := 0) (c := "GreatNumber") rfl (mem_ix 0) (T.tab.ms "GreatNumber" (mem_ix 0)) (ok_GreatNumber___init__ T) (hr.mono (by decide)) (pv 0) tk (da_cons (de_v (pv 1)) (da_cons (de_v (pv 2)) (da_star rfl (de_v (pv 3)) da_nil)))))))
noncomputable abbrev b_GreatNumber_base_size : MS := (mRet (mFld "own_size" (mVar 0)))
noncomputable def m_GreatNumber_base_size : MF := mFun 1 1 b_GreatNumber_base_size
theorem ok_GreatNumber_base_size (T : Tx tab exK fns K mg) : OkB P w K mg base 1 (prS K "GreatNumber" "base_size") ["self"] [] (spM (GG T) m_GreatNumber_base_size) :=
  okb_mk (T.c.def_ 13) (fun _ _ _ _ _ _ us hl => match us, hl with | [_], _ => rfl) fun fd F => fn_m (G := (GG T)) F sc_GreatNumber_base_size rfl (jvG T) fun cdv A outer s H E hr =>
    have tk : Takes (cxOf (L2.CX P w) P w K mg base n_GreatNumber_base_size "GreatNumber.base_size" (defScope s_GreatNumber_base_size) (prS K "GreatNumber" "base_size") cdv A outer s H E) (fun cls d _ H' => E cls d H') := takes_of rfl rfl rfl rfl
    (dss_one (ds_ret (de_fld (f := "own_size") rfl (T.fl 0) (de_v (pv 0)) rfl)))
noncomputable abbrev b_GreatNumber_number_sign : MS := (mRet (mFld "own_sign" (mVar 0)))
noncomputable def m_GreatNumber_number_sign : MF := mFun 1 1 b_GreatNumber_number_sign
theorem ok_GreatNumber_number_sign (T : Tx tab exK fns K mg) : OkB P w K mg base 1 (prS K "GreatNumber" "number_sign") ["self"] [] (spM (GG T) m_GreatNumber_number_sign) :=
  okb_mk (T.c.def_ 14) (fun _ _ _ _ _ _ us hl => match us, hl with | [_], _ => rfl) fun fd F => fn_m (G := (GG T)) F sc_GreatNumber_number_sign rfl (jvG T) fun cdv A outer s H E hr =>
    have tk : Takes (cxOf (L2.CX P w) P w K mg base n_GreatNumber_number_sign "GreatNumber.number_sign" (defScope s_GreatNumber_number_sign) (prS K "GreatNumber" "number_sign") cdv A outer s H E) (fun cls d _ H' => E cls d H') := takes_of rfl rfl rfl rfl
    (dss_one (ds_ret (de_fld (f := "own_sign") rfl (T.fl 1) (de_v (pv 0)) rfl)))
noncomputable abbrev le0_GreatNumber_figures : ME := (mBin oMul (mCB oLen (mCons (mVar 1) mNil)) (mVar 2))
noncomputable abbrev b_GreatNumber_figures : MS := (mRet (mCB oSum (mCons (mLc [1, 2] (mItS (mFld "own_pieces" (mVar 0))) (gT 2 (gsC (gN 1) (gsC (gN 2) gsN))) mYes le0_GreatNumber_figures) mNil)))
noncomputable def m_GreatNumber_figures : MF := mFun 1 3 b_GreatNumber_figures
theorem ok_GreatNumber_figures (T : Tx tab exK fns K mg) : OkB P w K mg base 1 (prS K "GreatNumber" "figures") ["self"] [] (spM (GG T) m_GreatNumber_figures) :=
  okb_mk (T.c.def_ 15) (fun _ _ _ _ _ _ us hl => match us, hl with | [_], _ => rfl) fun fd F => fn_m (G := (GG T)) F sc_GreatNumber_figures rfl (jvG T) fun cdv A outer s H E hr =>
    have tk : Takes (cxOf (L2.CX P w) P w K mg base n_GreatNumber_figures "GreatNumber.figures" (defScope s_GreatNumber_figures) (prS K "GreatNumber" "figures") cdv A outer s H E) (fun cls d _ H' => E cls d H') := takes_of rfl rfl rfl rfl
    (dss_one (ds_ret (de_cb (id := "sum") (cr_sum' rfl (by rfl)) sim_sum (by rfl) (T.bl 8) (by decide +kernel) (da_cons (de_lc (own := [("word", 1), ("times", 2)]) (stbG T) (by rfl) sc_GreatNumber_figures.nd (by exact (di_seq rfl (de_fld (f := "own_pieces") rfl (T.fl 2) (de_v (pv 0)) rfl))) (blkOk_by (own := [("word", 1), ("times", 2)]) (N := n_GreatNumber_figures) (sc := defScope s_GreatNumber_figures) (by decide +kernel)) (fun _ => by exact (dg_tup (n := 2) rfl (by rfl) (dgs_cons (dg_name (stbG T) (mem_ix 0) (pg_name (i := 1) sc_GreatNumber_figures.nd rfl (Or.inl rfl))) (dgs_cons (dg_name (stbG T) (mem_ix 1) (pg_name (i := 2) sc_GreatNumber_figures.nd rfl (Or.inl rfl))) dgs_nil)))) (fun _ => by exact dts_nil) (fun _ => by exact (de_op op_muls sim_mul (de_cb (id := "len") (cr_len rfl) sim_len (by rfl) (T.bl 5) (by decide +kernel) (da_cons (de_v (pv 1)) da_nil)) (de_v (pv 2))))) da_nil))))
noncomputable abbrev b_GreatNumber_pieces : MS := (mRet (mCB oList (mCons (mFld "own_pieces" (mVar 0)) mNil)))
noncomputable def m_GreatNumber_pieces : MF := mFun 1 1 b_GreatNumber_pieces
theorem ok_GreatNumber_pieces (T : Tx tab exK fns K mg) : OkB P w K mg base 1 (maS K "GreatNumber" "pieces") ["self"] [] (spM (GG T) m_GreatNumber_pieces) :=
  okb_mk (T.c.def_ 16) (fun _ _ _ _ _ _ us hl => match us, hl with | [_], _ => rfl) fun fd F => fn_m (G := (GG T)) F sc_GreatNumber_pieces rfl (jvG T) fun cdv A outer s H E hr =>
    have tk : Takes (cxOf (L2.CX P w) P w K mg base n_GreatNumber_pieces "GreatNumber.pieces" (defScope s_GreatNumber_pieces) (maS K "GreatNumber" "pieces") cdv A outer s H E) (fun cls d _ H' => E cls d H') := takes_of rfl rfl rfl rfl
    (dss_one (ds_ret (de_ct (T := "list") (cr_list rfl) sim_list (by rfl) (T.bl 4) (by decide +kernel) (da_cons (de_fld (f := "own_pieces") rfl (T.fl 2) (de_v (pv 0)) rfl) da_nil))))
noncomputable abbrev lf0_GreatNumber___getitem__ : MS := (mSeq (mIfS (mTst (mBin oLt (mVar 1) (mBin oAdd (mVar 2) (mBin oMul (mCB oLen (mCons (mVar 3) mNil)) (mVar 4))))) (mRet (mBin oIx (mVar 3) (mBin oMod (mBin oSub (mVar 1) (mVar 2)) (mCB oLen (mCons (mVar 3) mNil))))) mSkip)
      (mAsg (mBin oAdd (mVar 2) (mBin oMul (mCB oLen (mCons (mVar 3) mNil)) (mVar 4))) (gN 2)))
noncomputable abbrev b_GreatNumber___getitem__ : MS := (mSeq (mIfS (mNotT (mTru (mCall (withD [] (pureF m_is_between)) (mCons (mVar 1) (mCons (mC (.int 0)) (mCons (mBin oSub (mProp "GreatNumber" (pureF m_GreatNumber_figures) (mVar 0)) (mC (.int 1))) mNil)))))) mBad mSkip)
      (mSeq (mAsg (mC (.int 0)) (gN 2))
      (mSeq (mFor (mItS (mFld "own_pieces" (mVar 0))) (gT 2 (gsC (gN 3) (gsC (gN 4) gsN)))
      lf0_GreatNumber___getitem__)
      (mRet (mC (.int 0))))))
noncomputable def m_GreatNumber___getitem__ : MF := mFun 2 5 b_GreatNumber___getitem__
theorem ok_GreatNumber___getitem__ (T : Tx tab exK fns K mg) : OkB P w K mg base 3 (maS K "GreatNumber" "__getitem__") ["self", "index"] [] (spM (GG T) m_GreatNumber___getitem__) :=
  okb_mk (T.c.def_ 17) (fun _ _ _ _ _ _ us hl => match us, hl with | [_, _], _ => rfl) fun fd F => fn_m (G := (GG T)) F sc_GreatNumber___getitem__ rfl (jvG T) fun cdv A outer s H E hr =>
    have tk : Takes (cxOf (L2.CX P w) P w K mg base n_GreatNumber___getitem__ "GreatNumber.__getitem__" (defScope s_GreatNumber___getitem__) (maS K "GreatNumber" "__getitem__") cdv A outer s H E) (fun cls d _ H' => E cls d H') := takes_of rfl rfl rfl rfl
    (dss_cons (ds_if (dt_not (dt_tru rfl (ck_pcall (ok_is_between T) dfl_nil (hr.mono (by decide)) (by rfl) (T.gl 1) tk (da_cons (de_v (pv 1)) (da_cons de_int (da_cons (de_op op_sub sim_sub (ck_prop (c := "GreatNumber") (pureF m_GreatNumber_figures) rfl (mem_ix 0) (de_v (pv 0)) (T.tab.pr ("GreatNumber", "figures") (mem_ix 0)) (ok_GreatNumber_figures T) (hr.mono (by decide)) (.inr rfl) rfl) de_int) da_nil)))))) (dss_one (ds_never ps_never)) dss_nil)
      (dss_cons (ds_set (i := 2) (stbG T) (fun p => ps_set (i := 2) sc_GreatNumber___getitem__.nd rfl (Or.inl rfl) p) de_int)
      (dss_cons (ds_for (vs := [3, 4]) (passes_of rfl) (by rfl) (di_seq rfl (de_fld (f := "own_pieces") rfl (T.fl 2) (de_v (pv 0)) rfl)) (dg_tup (n := 2) rfl (by rfl) (dgs_cons (dg_name (stbG T) (mem_ix 0) (pg_name (i := 3) sc_GreatNumber___getitem__.nd rfl (Or.inl rfl))) (dgs_cons (dg_name (stbG T) (mem_ix 1) (pg_name (i := 4) sc_GreatNumber___getitem__.nd rfl (Or.inl rfl))) dgs_nil)))
      (dss_cons (ds_if (dt_cmp op_lt sim_lt (de_v (pv 1)) (de_op (op_adds rfl) sim_add (de_v (pv 2)) (de_op op_muls sim_mul (de_cb (id := "len") (cr_len rfl) sim_len (by rfl) (T.bl 5) (by decide +kernel) (da_cons (de_v (pv 3)) da_nil)) (de_v (pv 4)))) (nomark _)) (dss_one (ds_ret (de_ix rfl (de_v (pv 3)) (de_op op_modN sim_mod (de_op op_sub sim_sub (de_v (pv 1)) (de_v (pv 2))) (de_cb (id := "len") (cr_len rfl) sim_len (by rfl) (T.bl 5) (by decide +kernel) (da_cons (de_v (pv 3)) da_nil))) (fun _ _ => rfl)))) dss_nil)
      (dss_one (ds_set (i := 2) (stbG T) (fun p => ps_set (i := 2) sc_GreatNumber___getitem__.nd rfl (Or.inl rfl) p) (de_op (op_adds rfl) sim_add (de_v (pv 2)) (de_op op_muls sim_mul (de_cb (id := "len") (cr_len rfl) sim_len (by rfl) (T.bl 5) (by decide +kernel) (da_cons (de_v (pv 3)) da_nil)) (de_v (pv 4))))))))
      (dss_one (ds_ret de_int)))))
noncomputable abbrev b_GreatNumber_signed : MS := (mRet (mCall (makeP "GreatNumber" m_GreatNumber___init__) (mCons (mFld "own_size" (mVar 0)) (mCons (mIf (mTst (mBin oEq (mVar 1) (mC (.int 0)))) (mC (.int 1)) (mVar 1)) (mStar (mVar 2) mNil)))))
noncomputable def m_GreatNumber_signed : MF := mFun 3 3 b_GreatNumber_signed
theorem ok_GreatNumber_signed (T : Tx tab exK fns K mg) : OkB P w K mg base 7 (maS K "GreatNumber" "signed") ["self", "sign", "pieces"] [] (spM (GG T) m_GreatNumber_signed) :=
  okb_mk (T.c.def_ 18) (fun _ _ _ _ _ _ us hl => match us, hl with | [_, _, _], _ => rfl) fun fd F => fn_m (G := (GG T)) F sc_GreatNumber_signed rfl (jvG T) fun cdv A outer s H E hr =>
    have tk : Takes (cxOf (L2.CX P w) P w K mg base n_GreatNumber_signed "GreatNumber.signed" (defScope s_GreatNumber_signed) (maS K "GreatNumber" "signed") cdv A outer s H E) (fun cls d _ H' => E cls d H') := takes_of rfl rfl rfl rfl
    (dss_one (ds_ret (ck_makeS (c := "GreatNumber") rfl (mem_ix 0) (T.tab.ms "GreatNumber" (mem_ix 0)) (ok_GreatNumber___init__ T) (hr.mono (by decide)) (by rfl) (T.gl 7) tk (da_cons (de_fld (f := "own_size") rfl (T.fl 0) (de_v (pv 0)) rfl) (da_cons (de_if (dt_cmp (op_eq' rfl hr.units) sim_eq (de_v (pv 1)) de_int (nomark _)) de_int (de_v (pv 1))) (da_star rfl (de_v (pv 2)) da_nil))))))
noncomputable abbrev b_GreatNumber___lshift__ : MS := (mSeq (mIfS (mNotT (mTru (mCall (withD [] (pureF m_is_between)) (mCons (mVar 1) (mCons (mC (.int 0)) (mCons (mC (.int (1000000000000000000000000000000))) mNil)))))) mBad mSkip)
      (mSeq (mIfS (mOrT (mTst (mBin oEq (mVar 1) (mC (.int 0)))) (mTst (mBin oEq (mFld "own_sign" (mVar 0)) (mC (.int 0))))) (mRet (mMeth "GreatNumber" "signed" (withD [] (pureF m_GreatNumber_signed)) (mVar 0) (mCons (mFld "own_sign" (mVar 0)) (mCons (mFld "own_pieces" (mVar 0)) mNil)))) mSkip)
      (mSeq (mAsg (mLst (mCons (mTup (mCons (mTup (mCons (mC (.int 0)) mNil)) (mCons (mVar 1) mNil))) (mStar (mFld "own_pieces" (mVar 0)) mNil))) (gN 2))
      (mRet (mMeth "GreatNumber" "signed" (withD [] (pureF m_GreatNumber_signed)) (mVar 0) (mCons (mFld "own_sign" (mVar 0)) (mCons (mVar 2) mNil)))))))
noncomputable def m_GreatNumber___lshift__ : MF := mFun 2 3 b_GreatNumber___lshift__
theorem ok_GreatNumber___lshift__ (T : Tx tab exK fns K mg) : OkB P w K mg base 8 (maS K "GreatNumber" "__lshift__") ["self", "count"] [] (spM (GG T) m_GreatNumber___lshift__) :=
  okb_mk (T.c.def_ 19) (fun _ _ _ _ _ _ us hl => match us, hl with | [_, _], _ => rfl) fun fd F => fn_m (G := (GG T)) F sc_GreatNumber___lshift__ rfl (jvG T) fun cdv A outer s H E hr =>
    have tk : Takes (cxOf (L2.CX P w) P w K mg base n_GreatNumber___lshift__ "GreatNumber.__lshift__" (defScope s_GreatNumber___lshift__) (maS K "GreatNumber" "__lshift__") cdv A outer s H E) (fun cls d _ H' => E cls d H') := takes_of rfl rfl rfl rfl
    (dss_cons (ds_if (dt_not (dt_tru rfl (ck_pcall (ok_is_between T) dfl_nil (hr.mono (by decide)) (by rfl) (T.gl 1) tk (da_cons (de_v (pv 1)) (da_cons de_int (da_cons (de_gint (by rfl) (gint_of T (exf T 0))) da_nil)))))) (dss_one (ds_never ps_never)) dss_nil)
      (dss_cons (ds_if (DW.dt (dw_or (dt_cmp (op_eq' rfl hr.units) sim_eq (de_v (pv 1)) de_int (nomark _)) (dw_or1 (dt_cmp (op_eq' rfl hr.units) sim_eq (de_fld (f := "own_sign") rfl (T.fl 1) (de_v (pv 0)) rfl) de_int (nomark _))))) (dss_one (ds_ret (ck_meth (c := "GreatNumber") (mth := "signed") (withD [] (pureF m_GreatNumber_signed)) rfl (mem_ix 0) (de_v (pv 0)) (T.tab.me ("GreatNumber", "signed") (mem_ix 0)) (ok_GreatNumber_signed T) (hr.mono (by decide)) dfl_nil tk (.inr rfl) (da_cons (de_fld (f := "own_sign") rfl (T.fl 1) (de_v (pv 0)) rfl) (da_cons (de_fld (f := "own_pieces") rfl (T.fl 2) (de_v (pv 0)) rfl) da_nil))))) dss_nil)
      (dss_cons (ds_set (i := 2) (stbG T) (fun p => ps_set (i := 2) sc_GreatNumber___lshift__.nd rfl (Or.inl rfl) p) (de_lst (da_cons (de_tup (da_cons (de_tup (da_cons de_int da_nil)) (da_cons (de_v (pv 1)) da_nil))) (da_star rfl (de_fld (f := "own_pieces") rfl (T.fl 2) (de_v (pv 0)) rfl) da_nil))))
      (dss_one (ds_ret (ck_meth (c := "GreatNumber") (mth := "signed") (withD [] (pureF m_GreatNumber_signed)) rfl (mem_ix 0) (de_v (pv 0)) (T.tab.me ("GreatNumber", "signed") (mem_ix 0)) (ok_GreatNumber_signed T) (hr.mono (by decide)) dfl_nil tk (.inr rfl) (da_cons (de_fld (f := "own_sign") rfl (T.fl 1) (de_v (pv 0)) rfl) (da_cons (de_v (pv 2)) da_nil))))))))
noncomputable abbrev b_GreatNumber___neg__ : MS := (mRet (mMeth "GreatNumber" "signed" (withD [] (pureF m_GreatNumber_signed)) (mVar 0) (mCons (mUn oNeg (mFld "own_sign" (mVar 0))) (mCons (mFld "own_pieces" (mVar 0)) mNil))))
noncomputable def m_GreatNumber___neg__ : MF := mFun 1 1 b_GreatNumber___neg__
theorem ok_GreatNumber___neg__ (T : Tx tab exK fns K mg) : OkB P w K mg base 8 (maS K "GreatNumber" "__neg__") ["self"] [] (spM (GG T) m_GreatNumber___neg__) :=
  okb_mk (T.c.def_ 20) (fun _ _ _ _ _ _ us hl => match us, hl with | [_], _ => rfl) fun fd F => fn_m (G := (GG T)) F sc_GreatNumber___neg__ rfl (jvG T) fun cdv A outer s H E hr =>
    have tk : Takes (cxOf (L2.CX P w) P w K mg base n_GreatNumber___neg__ "GreatNumber.__neg__" (defScope s_GreatNumber___neg__) (maS K "GreatNumber" "__neg__") cdv A outer s H E) (fun cls d _ H' => E cls d H') := takes_of rfl rfl rfl rfl
    (dss_one (ds_ret (ck_meth (c := "GreatNumber") (mth := "signed") (withD [] (pureF m_GreatNumber_signed)) rfl (mem_ix 0) (de_v (pv 0)) (T.tab.me ("GreatNumber", "signed") (mem_ix 0)) (ok_GreatNumber_signed T) (hr.mono (by decide)) dfl_nil tk (.inr rfl) (da_cons (de_neg (de_fld (f := "own_sign") rfl (T.fl 1) (de_v (pv 0)) rfl)) (da_cons (de_fld (f := "own_pieces") rfl (T.fl 2) (de_v (pv 0)) rfl) da_nil)))))
noncomputable abbrev b_GreatNumber___abs__ : MS := (mRet (mMeth "GreatNumber" "signed" (withD [] (pureF m_GreatNumber_signed)) (mVar 0) (mCons (mC (.int 1)) (mCons (mFld "own_pieces" (mVar 0)) mNil))))
noncomputable def m_GreatNumber___abs__ : MF := mFun 1 1 b_GreatNumber___abs__
theorem ok_GreatNumber___abs__ (T : Tx tab exK fns K mg) : OkB P w K mg base 8 (maS K "GreatNumber" "__abs__") ["self"] [] (spM (GG T) m_GreatNumber___abs__) :=
  okb_mk (T.c.def_ 21) (fun _ _ _ _ _ _ us hl => match us, hl with | [_], _ => rfl) fun fd F => fn_m (G := (GG T)) F sc_GreatNumber___abs__ rfl (jvG T) fun cdv A outer s H E hr =>
    have tk : Takes (cxOf (L2.CX P w) P w K mg base n_GreatNumber___abs__ "GreatNumber.__abs__" (defScope s_GreatNumber___abs__) (maS K "GreatNumber" "__abs__") cdv A outer s H E) (fun cls d _ H' => E cls d H') := takes_of rfl rfl rfl rfl
    (dss_one (ds_ret (ck_meth (c := "GreatNumber") (mth := "signed") (withD [] (pureF m_GreatNumber_signed)) rfl (mem_ix 0) (de_v (pv 0)) (T.tab.me ("GreatNumber", "signed") (mem_ix 0)) (ok_GreatNumber_signed T) (hr.mono (by decide)) dfl_nil tk (.inr rfl) (da_cons de_int (da_cons (de_fld (f := "own_pieces") rfl (T.fl 2) (de_v (pv 0)) rfl) da_nil)))))
noncomputable abbrev lf0_compared : MS := (mSeq (mPar [11, 12] (mCons (mCall (withD [] (pureF m_figure_at)) (mCons (mBin oIx (mVar 2) (mVar 6)) (mCons (mVar 4) (mCons (mVar 10) mNil)))) (mCons (mCall (withD [] (pureF m_figure_at)) (mCons (mBin oIx (mVar 3) (mVar 7)) (mCons (mVar 5) (mCons (mVar 10) mNil)))) mNil)))
      (mIfS (mTst (mBin oNe (mVar 11) (mVar 12))) (mRet (mIf (mTst (mBin oGt (mVar 11) (mVar 12))) (mC (.int 1)) (mUn oNeg (mC (.int 1))))) mSkip))
noncomputable abbrev lw1_compared : MS := (mSeq (mIfS (mTst (mBin oEq (mVar 4) (mC (.int 0)))) (mAsg (mBin oMul (mCB oLen (mCons (mBin oIx (mBin oIx (mVar 2) (mVar 6)) (mC (.int 0))) mNil)) (mBin oIx (mBin oIx (mVar 2) (mVar 6)) (mC (.int 1)))) (gN 4)) mSkip)
      (mSeq (mIfS (mTst (mBin oEq (mVar 5) (mC (.int 0)))) (mAsg (mBin oMul (mCB oLen (mCons (mBin oIx (mBin oIx (mVar 3) (mVar 7)) (mC (.int 0))) mNil)) (mBin oIx (mBin oIx (mVar 3) (mVar 7)) (mC (.int 1)))) (gN 5)) mSkip)
      (mSeq (mAsg (mIf (mTst (mBin oLt (mVar 4) (mVar 5))) (mVar 4) (mVar 5)) (gN 8))
      (mSeq (mAsg (mBin oAdd (mCB oLen (mCons (mBin oIx (mBin oIx (mVar 2) (mVar 6)) (mC (.int 0))) mNil)) (mCB oLen (mCons (mBin oIx (mBin oIx (mVar 3) (mVar 7)) (mC (.int 0))) mNil))) (gN 9))
      (mSeq (mFor (mItR1 (mCons (mIf (mTst (mBin oLt (mVar 8) (mVar 9))) (mVar 8) (mVar 9)) mNil)) (gN 10)
      lf0_compared)
      (mSeq (mPar [4, 5] (mCons (mBin oSub (mVar 4) (mVar 8)) (mCons (mBin oSub (mVar 5) (mVar 8)) mNil)))
      (mPar [6, 7] (mCons (mBin oAdd (mVar 6) (mCB oInt (mCons (mBin oEq (mVar 4) (mC (.int 0))) mNil))) (mCons (mBin oAdd (mVar 7) (mCB oInt (mCons (mBin oEq (mVar 5) (mC (.int 0))) mNil))) mNil)))))))))
noncomputable abbrev lc2_compared : MT := (mTst (mBin oLt (mVar 6) (mCB oLen (mCons (mVar 2) mNil))))
noncomputable abbrev b_compared : MS := (mSeq (mPar [2, 3] (mCons (mUn oRev (mMeth "GreatNumber" "pieces" (withD [] (pureF m_GreatNumber_pieces)) (mVar 0) mNil)) (mCons (mUn oRev (mMeth "GreatNumber" "pieces" (withD [] (pureF m_GreatNumber_pieces)) (mVar 1) mNil)) mNil)))
      (mSeq (mAsg (mTup (mCons (mC (.int 0)) (mCons (mC (.int 0)) (mCons (mC (.int 0)) (mCons (mC (.int 0)) mNil))))) (gT 4 (gsC (gN 4) (gsC (gN 5) (gsC (gN 6) (gsC (gN 7) gsN))))))
      (mSeq (mWhile lc2_compared
      lw1_compared)
      (mRet (mC (.int 0))))))
noncomputable def m_compared : MF := mFun 2 13 b_compared
theorem ok_compared (T : Tx tab exK fns K mg) : OkB P w K mg base 2 (gaS K "compared") ["one", "other"] [] (spM (GG T) m_compared) :=
  okb_mk (T.c.def_ 22) (fun _ _ _ _ _ _ us hl => match us, hl with | [_, _], _ => rfl) fun fd F => fn_m (G := (GG T)) F sc_compared rfl (jvG T) fun cdv A outer s H E hr =>
    have tk : Takes (cxOf (L2.CX P w) P w K mg base n_compared "compared" (defScope s_compared) (gaS K "compared") cdv A outer s H E) (fun cls d _ H' => E cls d H') := takes_of rfl rfl rfl rfl
    (dss_cons (ds_par (stbG T) (fun p => ps_par (i := 2) (j := 3) (by rfl) sc_compared.nd rfl rfl (by decide) rfl rfl p (by rfl)) (da_cons (de_rev rfl (ck_meth0 (c := "GreatNumber") (mth := "pieces") (withD [] (pureF m_GreatNumber_pieces)) rfl (mem_ix 0) (de_v (pv 0)) (T.tab.me ("GreatNumber", "pieces") (mem_ix 1)) (ok_GreatNumber_pieces T) (hr.mono (by decide)) dfl_nil tk (.inr rfl))) (da_cons (de_rev rfl (ck_meth0 (c := "GreatNumber") (mth := "pieces") (withD [] (pureF m_GreatNumber_pieces)) rfl (mem_ix 0) (de_v (pv 1)) (T.tab.me ("GreatNumber", "pieces") (mem_ix 1)) (ok_GreatNumber_pieces T) (hr.mono (by decide)) dfl_nil tk (.inr rfl))) da_nil)))
      (dss_cons (ds_asg (vs := [4, 5, 6, 7]) (de_tup (da_cons de_int (da_cons de_int (da_cons de_int (da_cons de_int da_nil))))) (dg_tup (n := 4) rfl (by rfl) (dgs_cons (dg_name (stbG T) (mem_ix 0) (pg_name (i := 4) sc_compared.nd rfl (Or.inl rfl))) (dgs_cons (dg_name (stbG T) (mem_ix 1) (pg_name (i := 5) sc_compared.nd rfl (Or.inl rfl))) (dgs_cons (dg_name (stbG T) (mem_ix 2) (pg_name (i := 6) sc_compared.nd rfl (Or.inl rfl))) (dgs_cons (dg_name (stbG T) (mem_ix 3) (pg_name (i := 7) sc_compared.nd rfl (Or.inl rfl))) dgs_nil))))) (fun p x => ps_asg p x))
      (dss_cons (ds_while (passes_of rfl) (dt_cmp op_lt sim_lt (de_v (pv 6)) (de_cb (id := "len") (cr_len rfl) sim_len (by rfl) (T.bl 5) (by decide +kernel) (da_cons (de_v (pv 2)) da_nil)) (nomark _))
      (dss_cons (ds_if (dt_cmp (op_eq' rfl hr.units) sim_eq (de_v (pv 4)) de_int (nomark _)) (dss_one (ds_set (i := 4) (stbG T) (fun p => ps_set (i := 4) sc_compared.nd rfl (Or.inl rfl) p) (de_op op_muls sim_mul (de_cb (id := "len") (cr_len rfl) sim_len (by rfl) (T.bl 5) (by decide +kernel) (da_cons (de_ix rfl (de_ix rfl (de_v (pv 2)) (de_v (pv 6)) (fun _ _ => rfl)) de_int (fun _ _ => rfl)) da_nil)) (de_ix rfl (de_ix rfl (de_v (pv 2)) (de_v (pv 6)) (fun _ _ => rfl)) de_int (fun _ _ => rfl))))) dss_nil)
      (dss_cons (ds_if (dt_cmp (op_eq' rfl hr.units) sim_eq (de_v (pv 5)) de_int (nomark _)) (dss_one (ds_set (i := 5) (stbG T) (fun p => ps_set (i := 5) sc_compared.nd rfl (Or.inl rfl) p) (de_op op_muls sim_mul (de_cb (id := "len") (cr_len rfl) sim_len (by rfl) (T.bl 5) (by decide +kernel) (da_cons (de_ix rfl (de_ix rfl (de_v (pv 3)) (de_v (pv 7)) (fun _ _ => rfl)) de_int (fun _ _ => rfl)) da_nil)) (de_ix rfl (de_ix rfl (de_v (pv 3)) (de_v (pv 7)) (fun _ _ => rfl)) de_int (fun _ _ => rfl))))) dss_nil)
      (dss_cons (ds_set (i := 8) (stbG T) (fun p => ps_set (i := 8) sc_compared.nd rfl (Or.inl rfl) p) (de_if (dt_cmp op_lt sim_lt (de_v (pv 4)) (de_v (pv 5)) (nomark _)) (de_v (pv 4)) (de_v (pv 5))))
      (dss_cons (ds_set (i := 9) (stbG T) (fun p => ps_set (i := 9) sc_compared.nd rfl (Or.inl rfl) p) (de_op (op_adds rfl) sim_add (de_cb (id := "len") (cr_len rfl) sim_len (by rfl) (T.bl 5) (by decide +kernel) (da_cons (de_ix rfl (de_ix rfl (de_v (pv 2)) (de_v (pv 6)) (fun _ _ => rfl)) de_int (fun _ _ => rfl)) da_nil)) (de_cb (id := "len") (cr_len rfl) sim_len (by rfl) (T.bl 5) (by decide +kernel) (da_cons (de_ix rfl (de_ix rfl (de_v (pv 3)) (de_v (pv 7)) (fun _ _ => rfl)) de_int (fun _ _ => rfl)) da_nil))))
      (dss_cons (ds_for (vs := [10]) (passes_of rfl) (by rfl) (di_range1 (fun p => pi_range1 (by rfl) (T.bl 9) p) (da_cons (de_if (dt_cmp op_lt sim_lt (de_v (pv 8)) (de_v (pv 9)) (nomark _)) (de_v (pv 8)) (de_v (pv 9))) da_nil)) (dg_name (stbG T) (mem_ix 0) (pg_name (i := 10) sc_compared.nd rfl (Or.inl rfl)))
      (dss_cons (ds_par (stbG T) (fun p => ps_par (i := 11) (j := 12) (by rfl) sc_compared.nd rfl rfl (by decide) rfl rfl p (by rfl)) (da_cons (ck_pcall (ok_figure_at T) dfl_nil (hr.mono (by decide)) (by rfl) (T.gl 8) tk (da_cons (de_ix rfl (de_v (pv 2)) (de_v (pv 6)) (fun _ _ => rfl)) (da_cons (de_v (pv 4)) (da_cons (de_v (pv 10)) da_nil)))) (da_cons (ck_pcall (ok_figure_at T) dfl_nil (hr.mono (by decide)) (by rfl) (T.gl 8) tk (da_cons (de_ix rfl (de_v (pv 3)) (de_v (pv 7)) (fun _ _ => rfl)) (da_cons (de_v (pv 5)) (da_cons (de_v (pv 10)) da_nil)))) da_nil)))
      (dss_one (ds_if (dt_cmp (op_ne' rfl hr.units) sim_ne (de_v (pv 11)) (de_v (pv 12)) (nomark _)) (dss_one (ds_ret (de_if (dt_cmp op_gt sim_gt (de_v (pv 11)) (de_v (pv 12)) (nomark _)) de_int (de_neg de_int)))) dss_nil))))
      (dss_cons (ds_par (stbG T) (fun p => ps_par (i := 4) (j := 5) (by rfl) sc_compared.nd rfl rfl (by decide) rfl rfl p (by rfl)) (da_cons (de_op op_sub sim_sub (de_v (pv 4)) (de_v (pv 8))) (da_cons (de_op op_sub sim_sub (de_v (pv 5)) (de_v (pv 8))) da_nil)))
      (dss_one (ds_par (stbG T) (fun p => ps_par (i := 6) (j := 7) (by rfl) sc_compared.nd rfl rfl (by decide) rfl rfl p (by rfl)) (da_cons (de_op (op_adds rfl) sim_add (de_v (pv 6)) (de_ct (T := "int") call_int1 sim_int (by rfl) (T.bl 2) (by decide +kernel) (da_cons (de_cmp (op_eq' rfl hr.units) sim_eq (de_v (pv 4)) de_int (nomark _)) da_nil))) (da_cons (de_op (op_adds rfl) sim_add (de_v (pv 7)) (de_ct (T := "int") call_int1 sim_int (by rfl) (T.bl 2) (by decide +kernel) (da_cons (de_cmp (op_eq' rfl hr.units) sim_eq (de_v (pv 5)) de_int (nomark _)) da_nil))) da_nil)))))))))))
      (dss_one (ds_ret de_int)))))
noncomputable abbrev b_GreatNumber_order : MS := (mSeq (mIfS (mTst (mBin oNe (mFld "own_sign" (mVar 0)) (mFld "own_sign" (mVar 1)))) (mRet (mIf (mTst (mBin oGt (mFld "own_sign" (mVar 0)) (mFld "own_sign" (mVar 1)))) (mC (.int 1)) (mUn oNeg (mC (.int 1))))) mSkip)
      (mSeq (mIfS (mTst (mBin oNe (mProp "GreatNumber" (pureF m_GreatNumber_figures) (mVar 0)) (mProp "GreatNumber" (pureF m_GreatNumber_figures) (mVar 1)))) (mRet (mIf (mTst (mBin oGt (mProp "GreatNumber" (pureF m_GreatNumber_figures) (mVar 0)) (mProp "GreatNumber" (pureF m_GreatNumber_figures) (mVar 1)))) (mFld "own_sign" (mVar 0)) (mUn oNeg (mFld "own_sign" (mVar 0))))) mSkip)
      (mRet (mBin oMul (mFld "own_sign" (mVar 0)) (mCall (withD [] (pureF m_compared)) (mCons (mVar 0) (mCons (mVar 1) mNil)))))))
noncomputable def m_GreatNumber_order : MF := mFun 2 2 b_GreatNumber_order
theorem ok_GreatNumber_order (T : Tx tab exK fns K mg) : OkB P w K mg base 3 (maS K "GreatNumber" "order") ["self", "other"] [] (spM (GG T) m_GreatNumber_order) :=
  okb_mk (T.c.def_ 23) (fun _ _ _ _ _ _ us hl => match us, hl with | [_, _], _ => rfl) fun fd F => fn_m (G := (GG T)) F sc_GreatNumber_order rfl (jvG T) fun cdv A outer s H E hr =>
    have tk : Takes (cxOf (L2.CX P w) P w K mg base n_GreatNumber_order "GreatNumber.order" (defScope s_GreatNumber_order) (maS K "GreatNumber" "order") cdv A outer s H E) (fun cls d _ H' => E cls d H') := takes_of rfl rfl rfl rfl
    (dss_cons (ds_if (dt_cmp (op_ne' rfl hr.units) sim_ne (de_fld (f := "own_sign") rfl (T.fl 1) (de_v (pv 0)) rfl) (de_fld (f := "own_sign") rfl (T.fl 1) (de_v (pv 1)) rfl) (nomark _)) (dss_one (ds_ret (de_if (dt_cmp op_gt sim_gt (de_fld (f := "own_sign") rfl (T.fl 1) (de_v (pv 0)) rfl) (de_fld (f := "own_sign") rfl (T.fl 1) (de_v (pv 1)) rfl) (nomark _)) de_int (de_neg de_int)))) dss_nil)
      (dss_cons (ds_if (dt_cmp (op_ne' rfl hr.units) sim_ne (ck_prop (c := "GreatNumber") (pureF m_GreatNumber_figures) rfl (mem_ix 0) (de_v (pv 0)) (T.tab.pr ("GreatNumber", "figures") (mem_ix 0)) (ok_GreatNumber_figures T) (hr.mono (by decide)) (.inr rfl) rfl) (ck_prop (c := "GreatNumber") (pureF m_GreatNumber_figures) rfl (mem_ix 0) (de_v (pv 1)) (T.tab.pr ("GreatNumber", "figures") (mem_ix 0)) (ok_GreatNumber_figures T) (hr.mono (by decide)) (.inr rfl) rfl) (nomark _)) (dss_one (ds_ret (de_if (dt_cmp op_gt sim_gt (ck_prop (c := "GreatNumber") (pureF m_GreatNumber_figures) rfl (mem_ix 0) (de_v (pv 0)) (T.tab.pr ("GreatNumber", "figures") (mem_ix 0)) (ok_GreatNumber_figures T) (hr.mono (by decide)) (.inr rfl) rfl) (ck_prop (c := "GreatNumber") (pureF m_GreatNumber_figures) rfl (mem_ix 0) (de_v (pv 1)) (T.tab.pr ("GreatNumber", "figures") (mem_ix 0)) (ok_GreatNumber_figures T) (hr.mono (by decide)) (.inr rfl) rfl) (nomark _)) (de_fld (f := "own_sign") rfl (T.fl 1) (de_v (pv 0)) rfl) (de_neg (de_fld (f := "own_sign") rfl (T.fl 1) (de_v (pv 0)) rfl))))) dss_nil)
      (dss_one (ds_ret (de_op op_muls sim_mul (de_fld (f := "own_sign") rfl (T.fl 1) (de_v (pv 0)) rfl) (ck_pcall (ok_compared T) dfl_nil (hr.mono (by decide)) (by rfl) (T.gl 9) tk (da_cons (de_v (pv 0)) (da_cons (de_v (pv 1)) da_nil))))))))
noncomputable abbrev b_GreatNumber___eq__ : MS := (mSeq (mIfS (mOrT (mNotT (mTru (mCB oIsi (mCons (mVar 1) (mCons (mC (.cls "GreatNumber")) mNil))))) (mTst (mBin oNe (mFld "own_size" (mVar 0)) (mFld "own_size" (mVar 1))))) (mRet (mC (.bl false))) mSkip)
      (mRet (mBin oEq (mMeth "GreatNumber" "order" (withD [] (pureF m_GreatNumber_order)) (mVar 0) (mCons (mVar 1) mNil)) (mC (.int 0)))))
noncomputable def m_GreatNumber___eq__ : MF := mFun 2 2 b_GreatNumber___eq__
theorem ok_GreatNumber___eq__ (T : Tx tab exK fns K mg) : OkB P w K mg base 4 (maS K "GreatNumber" "__eq__") ["self", "other"] [] (spM (GG T) m_GreatNumber___eq__) :=
  okb_mk (T.c.def_ 24) (fun _ _ _ _ _ _ us hl => match us, hl with | [_, _], _ => rfl) fun fd F => fn_m (G := (GG T)) F sc_GreatNumber___eq__ rfl (jvG T) fun cdv A outer s H E hr =>
    have tk : Takes (cxOf (L2.CX P w) P w K mg base n_GreatNumber___eq__ "GreatNumber.__eq__" (defScope s_GreatNumber___eq__) (maS K "GreatNumber" "__eq__") cdv A outer s H E) (fun cls d _ H' => E cls d H') := takes_of rfl rfl rfl rfl
    (dss_cons (ds_if (DW.dt (dw_or (dt_not (dt_tru rfl (de_cb (id := "isinstance") (cr_isi rfl) sim_isi (by rfl) (T.bl 1) (by decide +kernel) (da_cons (de_v (pv 1)) (da_cons (de_c (pe_glob (v := .ref (gaS K "GreatNumber")) (by rfl) (T.gl 7) rfl) (fun _ => .cls "GreatNumber" (mem_ix 0))) da_nil))))) (dw_or1 (dt_cmp (op_ne' rfl hr.units) sim_ne (de_fld (f := "own_size") rfl (T.fl 0) (de_v (pv 0)) rfl) (de_fld (f := "own_size") rfl (T.fl 0) (de_v (pv 1)) rfl) (nomark _))))) (dss_one (ds_ret de_bl)) dss_nil)
      (dss_one (ds_ret (de_cmp (op_eq' rfl hr.units) sim_eq (ck_meth (c := "GreatNumber") (mth := "order") (withD [] (pureF m_GreatNumber_order)) rfl (mem_ix 0) (de_v (pv 0)) (T.tab.me ("GreatNumber", "order") (mem_ix 2)) (ok_GreatNumber_order T) (hr.mono (by decide)) dfl_nil tk (.inr rfl) (da_cons (de_v (pv 1)) da_nil)) de_int (nomark _)))))
noncomputable def mw_GreatNumber___eq__ : MF := mFun 2 2 ((mSeq (mIfS (mOrT (mNotT (mTru (mCB oIsi (mCons (mVar 1) (mCons (mC (.cls "GreatNumber")) mNil))))) (mTst (mBin oNe (mFld "own_size" (mVar 0)) (mFld "own_size" (mVar 1))))) (mRet (mC (.bl false))) mSkip)
      mBad))
theorem okw_GreatNumber___eq__ (T : Tx tab exK fns K mg) : OkW P w K mg base 1 (maS K "GreatNumber" "__eq__") ["self", "other"] (spM (GG T) mw_GreatNumber___eq__) :=
  okw_mk (T.c.def_ 24) (fun _ _ _ _ _ _ us hl => match us, hl with | [_, _], _ => rfl) fun fd F => fn_mW (G := (GG T)) F sc_GreatNumber___eq__ rfl (jvG T) fun cdv A outer s H E hr =>
    (dss_cons (ds_if (DW.dt (dw_or (dt_not (dt_tru rfl (de_cb (id := "isinstance") (cr_isi rfl) sim_isi (by rfl) (T.bl 1) (by decide +kernel) (da_cons (de_v (pv 1)) (da_cons (de_c (pe_glob (v := .ref (gaS K "GreatNumber")) (by rfl) (T.gl 7) rfl) (fun _ => .cls "GreatNumber" (mem_ix 0))) da_nil))))) (dw_or1 (dt_cmp (op_ne' rfl hr.units) sim_ne (de_fld (f := "own_size") rfl (T.fl 0) (de_v (pv 0)) rfl) (de_fld (f := "own_size") rfl (T.fl 0) (de_v (pv 1)) rfl) (nomark _))))) (dss_one (ds_ret de_bl)) dss_nil)
      (dss_one (ds_never ps_never)))
noncomputable abbrev b_GreatNumber___lt__ : MS := (mSeq (mIfS (mNotT (mTru (mCB oIsi (mCons (mVar 1) (mCons (mC (.cls "GreatNumber")) mNil))))) mBad mSkip)
      (mSeq (mIfS (mTst (mBin oNe (mFld "own_size" (mVar 0)) (mFld "own_size" (mVar 1)))) (mRaise "Unlike" ["one", "other"] (mCons (mFld "own_size" (mVar 0)) (mCons (mFld "own_size" (mVar 1)) mNil))) mSkip)
      (mRet (mBin oLt (mMeth "GreatNumber" "order" (withD [] (pureF m_GreatNumber_order)) (mVar 0) (mCons (mVar 1) mNil)) (mC (.int 0))))))
noncomputable def m_GreatNumber___lt__ : MF := mFun 2 2 b_GreatNumber___lt__
theorem ok_GreatNumber___lt__ (T : Tx tab exK fns K mg) : OkB P w K mg base 4 (maS K "GreatNumber" "__lt__") ["self", "other"] [] (spM (GG T) m_GreatNumber___lt__) :=
  okb_mk (T.c.def_ 25) (fun _ _ _ _ _ _ us hl => match us, hl with | [_, _], _ => rfl) fun fd F => fn_m (G := (GG T)) F sc_GreatNumber___lt__ rfl (jvG T) fun cdv A outer s H E hr =>
    have tk : Takes (cxOf (L2.CX P w) P w K mg base n_GreatNumber___lt__ "GreatNumber.__lt__" (defScope s_GreatNumber___lt__) (maS K "GreatNumber" "__lt__") cdv A outer s H E) (fun cls d _ H' => E cls d H') := takes_of rfl rfl rfl rfl
    (dss_cons (ds_if (dt_not (dt_tru rfl (de_cb (id := "isinstance") (cr_isi rfl) sim_isi (by rfl) (T.bl 1) (by decide +kernel) (da_cons (de_v (pv 1)) (da_cons (de_c (pe_glob (v := .ref (gaS K "GreatNumber")) (by rfl) (T.gl 7) rfl) (fun _ => .cls "GreatNumber" (mem_ix 0))) da_nil))))) (dss_one (ds_never ps_never)) dss_nil)
      (dss_cons (ds_if (dt_cmp (op_ne' rfl hr.units) sim_ne (de_fld (f := "own_size") rfl (T.fl 0) (de_v (pv 0)) rfl) (de_fld (f := "own_size") rfl (T.fl 0) (de_v (pv 1)) rfl) (nomark _)) (dss_one (ds_raise2 (c := "Unlike") (mem_ix 0) (fun p => ps_raise (by rfl) tk (pmk_ox (Bk.ok .re) (oxB_ok (k := .re) (c := "Unlike") (exf T 2)).oex (oxB_ok (k := .re) (c := "Unlike") (exf T 2)).iC (oxB_ok (k := .re) (c := "Unlike") (exf T 2)).tI (ok_x_Unlike T).choose_spec.1 (hr.mono (by decide)) (ok_x_Unlike T).choose_spec.2 pass0 (by rfl) (T.gl 10) p)) (da_cons (de_fld (f := "own_size") rfl (T.fl 0) (de_v (pv 0)) rfl) (da_cons (de_fld (f := "own_size") rfl (T.fl 0) (de_v (pv 1)) rfl) da_nil)))) dss_nil)
      (dss_one (ds_ret (de_cmp op_lt sim_lt (ck_meth (c := "GreatNumber") (mth := "order") (withD [] (pureF m_GreatNumber_order)) rfl (mem_ix 0) (de_v (pv 0)) (T.tab.me ("GreatNumber", "order") (mem_ix 2)) (ok_GreatNumber_order T) (hr.mono (by decide)) dfl_nil tk (.inr rfl) (da_cons (de_v (pv 1)) da_nil)) de_int (nomark _))))))
noncomputable abbrev lf0_GreatNumber_remainder : MS := (mAsg (mCall (withD [] (pureF m_joined)) (mCons (mVar 2) (mCons (mCall (withD [] (pureF m_repeated)) (mCons (mCall (withD [] (pureF m_block_of)) (mCons (mVar 3) (mCons (mFld "own_size" (mVar 0)) (mCons (mVar 1) mNil)))) (mCons (mVar 4) (mCons (mVar 1) mNil)))) (mCons (mVar 1) mNil)))) (gN 2))
noncomputable abbrev b_GreatNumber_remainder : MS := (mSeq (mExpr (mCall (withD [] (pureF m_require_modulus)) (mCons (mVar 1) mNil)))
      (mSeq (mAsg (mTup (mCons (mC (.int 0)) (mCons (mBin oMod (mC (.int 1)) (mVar 1)) mNil))) (gN 2))
      (mSeq (mFor (mItS (mFld "own_pieces" (mVar 0))) (gT 2 (gsC (gN 3) (gsC (gN 4) gsN)))
      lf0_GreatNumber_remainder)
      (mRet (mBin oMod (mBin oMul (mFld "own_sign" (mVar 0)) (mBin oIx (mVar 2) (mC (.int 0)))) (mVar 1))))))
noncomputable def m_GreatNumber_remainder : MF := mFun 2 5 b_GreatNumber_remainder
theorem ok_GreatNumber_remainder (T : Tx tab exK fns K mg) : OkB P w K mg base 4 (maS K "GreatNumber" "remainder") ["self", "modulus"] [] (spM (GG T) m_GreatNumber_remainder) :=
  okb_mk (T.c.def_ 26) (fun _ _ _ _ _ _ us hl => match us, hl with | [_, _], _ => rfl) fun fd F => fn_m (G := (GG T)) F sc_GreatNumber_remainder rfl (jvG T) fun cdv A outer s H E hr =>
    have tk : Takes (cxOf (L2.CX P w) P w K mg base n_GreatNumber_remainder "GreatNumber.remainder" (defScope s_GreatNumber_remainder) (maS K "GreatNumber" "remainder") cdv A outer s H E) (fun cls d _ H' => E cls d H') := takes_of rfl rfl rfl rfl
    (dss_cons (ds_expr (fun p => ps_expr p) (ck_pcall (ok_require_modulus T) dfl_nil (hr.mono (by decide)) (by rfl) (T.gl 11) tk (da_cons (de_v (pv 1)) da_nil)))
      (dss_cons (ds_set (i := 2) (stbG T) (fun p => ps_set (i := 2) sc_GreatNumber_remainder.nd rfl (Or.inl rfl) p) (de_tup (da_cons de_int (da_cons (de_op op_modN sim_mod de_int (de_v (pv 1))) da_nil))))
      (dss_cons (ds_for (vs := [3, 4]) (passes_of rfl) (by rfl) (di_seq rfl (de_fld (f := "own_pieces") rfl (T.fl 2) (de_v (pv 0)) rfl)) (dg_tup (n := 2) rfl (by rfl) (dgs_cons (dg_name (stbG T) (mem_ix 0) (pg_name (i := 3) sc_GreatNumber_remainder.nd rfl (Or.inl rfl))) (dgs_cons (dg_name (stbG T) (mem_ix 1) (pg_name (i := 4) sc_GreatNumber_remainder.nd rfl (Or.inl rfl))) dgs_nil)))
      (dss_one (ds_set (i := 2) (stbG T) (fun p => ps_set (i := 2) sc_GreatNumber_remainder.nd rfl (Or.inl rfl) p) (ck_pcall (ok_joined T) dfl_nil (hr.mono (by decide)) (by rfl) (T.gl 3) tk (da_cons (de_v (pv 2)) (da_cons (ck_pcall (ok_repeated T) dfl_nil (hr.mono (by decide)) (by rfl) (T.gl 13) tk (da_cons (ck_pcall (ok_block_of T) dfl_nil (hr.mono (by decide)) (by rfl) (T.gl 12) tk (da_cons (de_v (pv 3)) (da_cons (de_fld (f := "own_size") rfl (T.fl 0) (de_v (pv 0)) rfl) (da_cons (de_v (pv 1)) da_nil)))) (da_cons (de_v (pv 4)) (da_cons (de_v (pv 1)) da_nil)))) (da_cons (de_v (pv 1)) da_nil)))))))
      (dss_one (ds_ret (de_op op_modN sim_mod (de_op op_muls sim_mul (de_fld (f := "own_sign") rfl (T.fl 1) (de_v (pv 0)) rfl) (de_ix rfl (de_v (pv 2)) de_int (fun _ _ => rfl))) (de_v (pv 1))))))))
noncomputable abbrev lf0_GreatNumber_plain : MS := (mPar [1, 2] (mCons (mBin oAdd (mVar 1) (mBin oMul (mVar 5) (mVar 2))) (mCons (mBin oMul (mVar 2) (mFld "own_size" (mVar 0))) mNil)))
noncomputable abbrev lf1_GreatNumber_plain : MS := (mFor (mItS (mBin oMulT (mVar 3) (mVar 4))) (gN 5)
      lf0_GreatNumber_plain)
noncomputable abbrev b_GreatNumber_plain : MS := (mSeq (mIfS (mTst (mBin oGt (mProp "GreatNumber" (pureF m_GreatNumber_figures) (mVar 0)) (mC (.int (1000))))) mBad mSkip)
      (mSeq (mAsg (mTup (mCons (mC (.int 0)) (mCons (mC (.int 1)) mNil))) (gT 2 (gsC (gN 1) (gsC (gN 2) gsN))))
      (mSeq (mFor (mItS (mFld "own_pieces" (mVar 0))) (gT 2 (gsC (gN 3) (gsC (gN 4) gsN)))
      lf1_GreatNumber_plain)
      (mRet (mBin oMul (mFld "own_sign" (mVar 0)) (mVar 1))))))
noncomputable def m_GreatNumber_plain : MF := mFun 1 6 b_GreatNumber_plain
theorem ok_GreatNumber_plain (T : Tx tab exK fns K mg) : OkB P w K mg base 3 (maS K "GreatNumber" "plain") ["self"] [] (spM (GG T) m_GreatNumber_plain) :=
  okb_mk (T.c.def_ 27) (fun _ _ _ _ _ _ us hl => match us, hl with | [_], _ => rfl) fun fd F => fn_m (G := (GG T)) F sc_GreatNumber_plain rfl (jvG T) fun cdv A outer s H E hr =>
    have tk : Takes (cxOf (L2.CX P w) P w K mg base n_GreatNumber_plain "GreatNumber.plain" (defScope s_GreatNumber_plain) (maS K "GreatNumber" "plain") cdv A outer s H E) (fun cls d _ H' => E cls d H') := takes_of rfl rfl rfl rfl
    (dss_cons (ds_if (dt_cmp op_gt sim_gt (ck_prop (c := "GreatNumber") (pureF m_GreatNumber_figures) rfl (mem_ix 0) (de_v (pv 0)) (T.tab.pr ("GreatNumber", "figures") (mem_ix 0)) (ok_GreatNumber_figures T) (hr.mono (by decide)) (.inr rfl) rfl) (de_gint (by rfl) (gint_of T (exf T 3))) (nomark _)) (dss_one (ds_never ps_never)) dss_nil)
      (dss_cons (ds_asg (vs := [1, 2]) (de_tup (da_cons de_int (da_cons de_int da_nil))) (dg_tup (n := 2) rfl (by rfl) (dgs_cons (dg_name (stbG T) (mem_ix 0) (pg_name (i := 1) sc_GreatNumber_plain.nd rfl (Or.inl rfl))) (dgs_cons (dg_name (stbG T) (mem_ix 1) (pg_name (i := 2) sc_GreatNumber_plain.nd rfl (Or.inl rfl))) dgs_nil))) (fun p x => ps_asg p x))
      (dss_cons (ds_for (vs := [3, 4]) (passes_of rfl) (by rfl) (di_seq rfl (de_fld (f := "own_pieces") rfl (T.fl 2) (de_v (pv 0)) rfl)) (dg_tup (n := 2) rfl (by rfl) (dgs_cons (dg_name (stbG T) (mem_ix 0) (pg_name (i := 3) sc_GreatNumber_plain.nd rfl (Or.inl rfl))) (dgs_cons (dg_name (stbG T) (mem_ix 1) (pg_name (i := 4) sc_GreatNumber_plain.nd rfl (Or.inl rfl))) dgs_nil)))
      (dss_one (ds_for (vs := [5]) (passes_of rfl) (by rfl) (di_seq rfl (de_op (op_tm' rfl) sim_mulT (de_v (pv 3)) (de_v (pv 4)))) (dg_name (stbG T) (mem_ix 0) (pg_name (i := 5) sc_GreatNumber_plain.nd rfl (Or.inl rfl)))
      (dss_one (ds_par (stbG T) (fun p => ps_par (i := 1) (j := 2) (by rfl) sc_GreatNumber_plain.nd rfl rfl (by decide) rfl rfl p (by rfl)) (da_cons (de_op (op_adds rfl) sim_add (de_v (pv 1)) (de_op op_muls sim_mul (de_v (pv 5)) (de_v (pv 2)))) (da_cons (de_op op_muls sim_mul (de_v (pv 2)) (de_fld (f := "own_size") rfl (T.fl 0) (de_v (pv 0)) rfl)) da_nil)))))))
      (dss_one (ds_ret (de_op op_muls sim_mul (de_fld (f := "own_sign") rfl (T.fl 1) (de_v (pv 0)) rfl) (de_v (pv 1))))))))
noncomputable abbrev b_l_pool : MS := (mSeq (mAsg (mC (.int 0)) (gN 2))
      (mSeq (mIfS (mTst (mBin oLt (mVar 1) (mCB oLen (mCons (mVar 0) mNil)))) (mAsg (mBin oIx (mVar 0) (mVar 1)) (gN 2)) mSkip)
      (mSeq (mAsg (mBin oMod (mBin oPow (mBin oAdd (mBin oAdd (mBin oMod (mCB oInt (mCons (mVar 2) mNil)) (mC (.int 2147483629))) (mBin oMul (mBin oMul (mC (.int 7919)) (mVar 1)) (mVar 1))) (mC (.int 31))) (mC (.int 3))) (mC (.int 2147483647))) (gN 3))
      (mSeq (mIfS (mTst (mBin oLt (mVar 2) (mBin oPow (mC (.int 10)) (mC (.int 18))))) (mAsg (mC (.int 0)) (gN 2)) mSkip)
      (mRet (mLstC (mCons (mVar 2) (mCons (mVar 3) mNil))))))))
noncomputable def m_l_pool : MF := mFun 2 4 b_l_pool
theorem ok_l_pool (T : Tx tab exK fns K mg) : OkB P w K mg base 1 (gaS K "_law_pool") ["_law_script", "_law_k"] [] (spM (GG T) m_l_pool) :=
  okb_mk (T.c.def_ 28) (fun _ _ _ _ _ _ us hl => match us, hl with | [_, _], _ => rfl) fun fd F => fn_m (G := (GG T)) F sc_l_pool rfl (jvG T) fun cdv A outer s H E hr =>
    have tk : Takes (cxOf (L2.CX P w) P w K mg base n_l_pool "_law_pool" (defScope s_l_pool) (gaS K "_law_pool") cdv A outer s H E) (fun cls d _ H' => E cls d H') := takes_of rfl rfl rfl rfl
    (dss_cons (ds_set (i := 2) (stbG T) (fun p => ps_set (i := 2) sc_l_pool.nd rfl (Or.inl rfl) p) de_int)
      (dss_cons (ds_if (dt_cmp op_lt sim_lt (de_v (pv 1)) (de_cb (id := "len") (cr_len rfl) sim_len (by rfl) (T.bl 5) (by decide +kernel) (da_cons (de_v (pv 0)) da_nil)) (nomark _)) (dss_one (ds_set (i := 2) (stbG T) (fun p => ps_set (i := 2) sc_l_pool.nd rfl (Or.inl rfl) p) (de_ix rfl (de_v (pv 0)) (de_v (pv 1)) (fun _ _ => rfl)))) dss_nil)
      (dss_cons (ds_set (i := 3) (stbG T) (fun p => ps_set (i := 3) sc_l_pool.nd rfl (Or.inl rfl) p) (de_op op_modN sim_mod (de_op op_pow sim_pow (de_op (op_adds rfl) sim_add (de_op (op_adds rfl) sim_add (de_op op_modN sim_mod (de_ct (T := "int") call_int1 sim_int (by rfl) (T.bl 2) (by decide +kernel) (da_cons (de_v (pv 2)) da_nil)) de_int) (de_op op_muls sim_mul (de_op op_muls sim_mul de_int (de_v (pv 1))) (de_v (pv 1)))) de_int) de_int) de_int))
      (dss_cons (ds_if (dt_cmp op_lt sim_lt (de_v (pv 2)) (de_op op_pow sim_pow de_int de_int) (nomark _)) (dss_one (ds_set (i := 2) (stbG T) (fun p => ps_set (i := 2) sc_l_pool.nd rfl (Or.inl rfl) p) de_int)) dss_nil)
      (dss_one (ds_ret (de_lstC (da_cons (de_v (pv 2)) (da_cons (de_v (pv 3)) da_nil)))))))))
noncomputable abbrev b_l_draw : MS := (mSeq (mIfS (mTst (mBin oGt (mBin oIx (mVar 0) (mC (.int 0))) (mC (.int 0)))) (mSeq (mAsg (mBin oMod (mCB oInt (mCons (mBin oIx (mVar 0) (mC (.int 0))) mNil)) (mVar 1)) (gN 2))
      (mSeq (mSetI (mVar 0) (mC (.int 0)) (mBin oFdiv (mBin oIx (mVar 0) (mC (.int 0))) (mVar 1)))
      (mRet (mVar 2)))) mSkip)
      (mSeq (mSetI (mVar 0) (mC (.int 1)) (mBin oMod (mCB oInt (mCons (mBin oAdd (mBin oMul (mBin oIx (mVar 0) (mC (.int 1))) (mC (.int 48271))) (mC (.int 11))) mNil)) (mC (.int 2147483647))))
      (mRet (mBin oMod (mBin oFdiv (mBin oMod (mCB oInt (mCons (mBin oMul (mBin oIx (mVar 0) (mC (.int 1))) (mBin oIx (mVar 0) (mC (.int 1)))) mNil)) (mC (.int 2147483629))) (mC (.int 64))) (mVar 1)))))
noncomputable def m_l_draw : MF := mFun 2 3 b_l_draw
theorem ok_l_draw (T : Tx tab exK fns K mg) : OkB P w K mg base 1 (gaS K "_law_draw") ["_law_pool_here", "_law_many"] [] (spM (GG T) m_l_draw) :=
  okb_mk (T.c.def_ 29) (fun _ _ _ _ _ _ us hl => match us, hl with | [_, _], _ => rfl) fun fd F => fn_m (G := (GG T)) F sc_l_draw rfl (jvG T) fun cdv A outer s H E hr =>
    have tk : Takes (cxOf (L2.CX P w) P w K mg base n_l_draw "_law_draw" (defScope s_l_draw) (gaS K "_law_draw") cdv A outer s H E) (fun cls d _ H' => E cls d H') := takes_of rfl rfl rfl rfl
    (dss_cons (ds_if (dt_cmp op_gt sim_gt (de_ix rfl (de_v (pv 0)) de_int (fun _ _ => rfl)) de_int (nomark _)) (dss_cons (ds_set (i := 2) (stbG T) (fun p => ps_set (i := 2) sc_l_draw.nd rfl (Or.inl rfl) p) (de_op op_modN sim_mod (de_ct (T := "int") call_int1 sim_int (by rfl) (T.bl 2) (by decide +kernel) (da_cons (de_ix rfl (de_v (pv 0)) de_int (fun _ _ => rfl)) da_nil)) (de_v (pv 1))))
      (dss_cons (ds_setI (de_v (pv 0)) de_int (de_op op_fdivX sim_fdiv (de_ix rfl (de_v (pv 0)) de_int (fun _ _ => rfl)) (de_v (pv 1))) (fun p x y => ps_asg p (pg_sub x y set_list)))
      (dss_one (ds_ret (de_v (pv 2)))))) dss_nil)
      (dss_cons (ds_setI (de_v (pv 0)) de_int (de_op op_modN sim_mod (de_ct (T := "int") call_int1 sim_int (by rfl) (T.bl 2) (by decide +kernel) (da_cons (de_op (op_adds rfl) sim_add (de_op op_muls sim_mul (de_ix rfl (de_v (pv 0)) de_int (fun _ _ => rfl)) de_int) de_int) da_nil)) de_int) (fun p x y => ps_asg p (pg_sub x y set_list)))
      (dss_one (ds_ret (de_op op_modN sim_mod (de_op op_fdivX sim_fdiv (de_op op_modN sim_mod (de_ct (T := "int") call_int1 sim_int (by rfl) (T.bl 2) (by decide +kernel) (da_cons (de_op op_muls sim_mul (de_ix rfl (de_v (pv 0)) de_int (fun _ _ => rfl)) (de_ix rfl (de_v (pv 0)) de_int (fun _ _ => rfl))) da_nil)) de_int) de_int) (de_v (pv 1)))))))
noncomputable abbrev le0_l_pieces : ME := (mCall (withD [] m_l_draw) (mCons (mVar 0) (mCons (mVar 1) mNil)))
noncomputable abbrev lf1_l_pieces : MS := (mSeq (mAsg (mLc [8] (mItR1 (mCons (mBin oAdd (mC (.int 1)) (mCall (withD [] m_l_draw) (mCons (mVar 0) (mCons (mC (.int 4)) mNil)))) mNil)) (gN 8) mYes le0_l_pieces) (gN 6))
      (mExpr (mLM oAppend (mVar 4) (mCons (mTup (mCons (mCB oTuple (mCons (mVar 6) mNil)) (mCons (mBin oAdd (mC (.int 1)) (mCall (withD [] m_l_draw) (mCons (mVar 0) (mCons (mVar 3) mNil)))) mNil))) mNil))))
noncomputable abbrev b_l_pieces : MS := (mSeq (mAsg (mLstC mNil) (gN 4))
      (mSeq (mFor (mItR1 (mCons (mCall (withD [] m_l_draw) (mCons (mVar 0) (mCons (mBin oAdd (mVar 2) (mC (.int 1))) mNil))) mNil)) (gN 5)
      lf1_l_pieces)
      (mSeq (mIfS (mTst (mBin oNe (mVar 4) (mLstC mNil))) (mSeq (mAsg (mBin oIx (mVar 4) (mUn oNeg (mC (.int 1)))) (gT 2 (gsC (gN 6) (gsC (gN 7) gsN))))
      (mSetI (mVar 4) (mUn oNeg (mC (.int 1))) (mTup (mCons (mBin oAdd (mSl (mVar 6) mNo (mPart (mUn oNeg (mC (.int 1))))) (mTup (mCons (mBin oAdd (mC (.int 1)) (mCall (withD [] m_l_draw) (mCons (mVar 0) (mCons (mBin oSub (mVar 1) (mC (.int 1))) mNil)))) mNil))) (mCons (mVar 7) mNil))))) mSkip)
      (mRet (mVar 4)))))
noncomputable def m_l_pieces : MF := mFun 4 9 b_l_pieces
theorem ok_l_pieces (T : Tx tab exK fns K mg) : OkB P w K mg base 2 (gaS K "_law_pieces") ["_law_pool_here", "_law_size", "_law_most", "_law_times"] [] (spM (GG T) m_l_pieces) :=
  okb_mk (T.c.def_ 30) (fun _ _ _ _ _ _ us hl => match us, hl with | [_, _, _, _], _ => rfl) fun fd F => fn_m (G := (GG T)) F sc_l_pieces rfl (jvG T) fun cdv A outer s H E hr =>
    have tk : Takes (cxOf (L2.CX P w) P w K mg base n_l_pieces "_law_pieces" (defScope s_l_pieces) (gaS K "_law_pieces") cdv A outer s H E) (fun cls d _ H' => E cls d H') := takes_of rfl rfl rfl rfl
    (dss_cons (ds_set (i := 4) (stbG T) (fun p => ps_set (i := 4) sc_l_pieces.nd rfl (Or.inl rfl) p) (de_lstC da_nil))
      (dss_cons (ds_for (vs := [5]) (passes_of rfl) (by rfl) (di_range1 (fun p => pi_range1 (by rfl) (T.bl 9) p) (da_cons (ck_call (ok_l_draw T) dfl_nil (hr.mono (by decide)) (by rfl) (T.gl 14) tk (da_cons (de_v (pv 0)) (da_cons (de_op (op_adds rfl) sim_add (de_v (pv 2)) de_int) da_nil))) da_nil)) (dg_name (stbG T) (mem_ix 0) (pg_name (i := 5) sc_l_pieces.nd rfl (Or.inl rfl)))
      (dss_cons (ds_setLc (i := 6) (own := [("_law_at", 8)]) (stbG T) (by rfl) sc_l_pieces.nd rfl rfl (sw_true rfl rfl rfl (by decide +kernel)) (by exact (di_range1 (fun p => pi_range1 (by rfl) (T.bl 9) p) (da_cons (de_op (op_adds rfl) sim_add de_int (ck_call (ok_l_draw T) dfl_nil (hr.mono (by decide)) (by rfl) (T.gl 14) tk (da_cons (de_v (pv 0)) (da_cons de_int da_nil)))) da_nil))) (blkOk_by (own := [("_law_at", 8)]) (N := n_l_pieces) (sc := defScope s_l_pieces) (by decide +kernel)) (fun _ => by exact (dg_name (stbG T) (mem_ix 0) (pg_name (i := 8) sc_l_pieces.nd rfl (Or.inl rfl)))) (fun _ => by exact dts_nil) (fun _ => by exact (ck_call (ok_l_draw T) dfl_nil (hr.mono (by decide)) (by rfl) (T.gl 14) takes0 (da_cons (de_v (pv 0)) (da_cons (de_v (pv 1)) da_nil)))))
      (dss_one (ds_expr (fun p => ps_expr p) (de_lm rfl (fun a b => pe_bm PySem.F.plainAttrs_list PySem.F.slot_list_append PySem.F.type_list_append mt_append a b) sim_append (de_v (pv 4)) (da_cons (de_tup (da_cons (de_ct (T := "tuple") (cr_tuple rfl) sim_tuple (by rfl) (T.bl 3) (by decide +kernel) (da_cons (de_v (pv 6)) da_nil)) (da_cons (de_op (op_adds rfl) sim_add de_int (ck_call (ok_l_draw T) dfl_nil (hr.mono (by decide)) (by rfl) (T.gl 14) tk (da_cons (de_v (pv 0)) (da_cons (de_v (pv 3)) da_nil)))) da_nil))) da_nil))))))
      (dss_cons (ds_if (dt_cmp (op_ne' rfl hr.units) sim_ne (de_v (pv 4)) (de_lstC da_nil) (nomark _)) (dss_cons (ds_asg (vs := [6, 7]) (de_ix rfl (de_v (pv 4)) (de_neg de_int) (fun _ _ => rfl)) (dg_tup (n := 2) rfl (by rfl) (dgs_cons (dg_name (stbG T) (mem_ix 0) (pg_name (i := 6) sc_l_pieces.nd rfl (Or.inl rfl))) (dgs_cons (dg_name (stbG T) (mem_ix 1) (pg_name (i := 7) sc_l_pieces.nd rfl (Or.inl rfl))) dgs_nil))) (fun p x => ps_asg p x))
      (dss_one (ds_setI (de_v (pv 4)) (de_neg de_int) (de_tup (da_cons (de_op (op_adds rfl) sim_add (de_sl rfl (de_v (pv 6)) do_none (do_some (de_neg de_int))) (de_tup (da_cons (de_op (op_adds rfl) sim_add de_int (ck_call (ok_l_draw T) dfl_nil (hr.mono (by decide)) (by rfl) (T.gl 14) tk (da_cons (de_v (pv 0)) (da_cons (de_op op_sub sim_sub (de_v (pv 1)) de_int) da_nil)))) da_nil))) (da_cons (de_v (pv 7)) da_nil))) (fun p x y => ps_asg p (pg_sub x y set_list))))) dss_nil)
      (dss_one (ds_ret (de_v (pv 4)))))))
noncomputable abbrev lf0_l_figures : MS := (mAsg (mBin oAdd (mVar 1) (mBin oMulT (mVar 2) (mVar 3))) (gN 1))
noncomputable abbrev b_l_figures : MS := (mSeq (mAsg (mTup mNil) (gN 1))
      (mSeq (mFor (mItS (mVar 0)) (gT 2 (gsC (gN 2) (gsC (gN 3) gsN)))
      lf0_l_figures)
      (mRet (mVar 1))))
noncomputable def m_l_figures : MF := mFun 1 4 b_l_figures
theorem ok_l_figures (T : Tx tab exK fns K mg) : OkB P w K mg base 1 (gaS K "_law_figures") ["_law_pieces_here"] [] (spM (GG T) m_l_figures) :=
  okb_mk (T.c.def_ 31) (fun _ _ _ _ _ _ us hl => match us, hl with | [_], _ => rfl) fun fd F => fn_m (G := (GG T)) F sc_l_figures rfl (jvG T) fun cdv A outer s H E hr =>
    have tk : Takes (cxOf (L2.CX P w) P w K mg base n_l_figures "_law_figures" (defScope s_l_figures) (gaS K "_law_figures") cdv A outer s H E) (fun cls d _ H' => E cls d H') := takes_of rfl rfl rfl rfl
    (dss_cons (ds_set (i := 1) (stbG T) (fun p => ps_set (i := 1) sc_l_figures.nd rfl (Or.inl rfl) p) (de_tup da_nil))
      (dss_cons (ds_for (vs := [2, 3]) (passes_of rfl) (by rfl) (di_seq rfl (de_v (pv 0))) (dg_tup (n := 2) rfl (by rfl) (dgs_cons (dg_name (stbG T) (mem_ix 0) (pg_name (i := 2) sc_l_figures.nd rfl (Or.inl rfl))) (dgs_cons (dg_name (stbG T) (mem_ix 1) (pg_name (i := 3) sc_l_figures.nd rfl (Or.inl rfl))) dgs_nil)))
      (dss_one (ds_set (i := 1) (stbG T) (fun p => ps_set (i := 1) sc_l_figures.nd rfl (Or.inl rfl) p) (de_op (op_adds rfl) sim_add (de_v (pv 1)) (de_op (op_tm' rfl) sim_mulT (de_v (pv 2)) (de_v (pv 3)))))))
      (dss_one (ds_ret (de_v (pv 1))))))
noncomputable abbrev lf0_l_number : MS := (mAsg (mBin oAdd (mBin oMul (mVar 3) (mVar 2)) (mVar 4)) (gN 3))
noncomputable abbrev b_l_number : MS := (mSeq (mAsg (mC (.int 0)) (gN 3))
      (mSeq (mFor (mItS (mUn oRev (mVar 1))) (gN 4)
      lf0_l_number)
      (mRet (mBin oMul (mVar 0) (mVar 3)))))
noncomputable def m_l_number : MF := mFun 3 5 b_l_number
theorem ok_l_number (T : Tx tab exK fns K mg) : OkB P w K mg base 1 (gaS K "_law_number") ["_law_side", "_law_figures_here", "_law_size"] [] (spM (GG T) m_l_number) :=
  okb_mk (T.c.def_ 32) (fun _ _ _ _ _ _ us hl => match us, hl with | [_, _, _], _ => rfl) fun fd F => fn_m (G := (GG T)) F sc_l_number rfl (jvG T) fun cdv A outer s H E hr =>
    have tk : Takes (cxOf (L2.CX P w) P w K mg base n_l_number "_law_number" (defScope s_l_number) (gaS K "_law_number") cdv A outer s H E) (fun cls d _ H' => E cls d H') := takes_of rfl rfl rfl rfl
    (dss_cons (ds_set (i := 3) (stbG T) (fun p => ps_set (i := 3) sc_l_number.nd rfl (Or.inl rfl) p) de_int)
      (dss_cons (ds_for (vs := [4]) (passes_of rfl) (by rfl) (di_seq rfl (de_rev rfl (de_v (pv 1)))) (dg_name (stbG T) (mem_ix 0) (pg_name (i := 4) sc_l_number.nd rfl (Or.inl rfl)))
      (dss_one (ds_set (i := 3) (stbG T) (fun p => ps_set (i := 3) sc_l_number.nd rfl (Or.inl rfl) p) (de_op (op_adds rfl) sim_add (de_op op_muls sim_mul (de_v (pv 3)) (de_v (pv 2))) (de_v (pv 4))))))
      (dss_one (ds_ret (de_op op_muls sim_mul (de_v (pv 0)) (de_v (pv 3)))))))
noncomputable abbrev b_l_integer : MS := (mRet (mAnd (mCB oIsi (mCons (mVar 0) (mCons (mC (.ty "int")) mNil))) (mAnd (mUn oNot (mCB oIsi (mCons (mVar 0) (mCons (mC (.ty "bool")) mNil)))) (mBin oEq (mVar 0) (mVar 1)))))
noncomputable def m_l_integer : MF := mFun 2 2 b_l_integer
theorem ok_l_integer (T : Tx tab exK fns K mg) : OkB P w K mg base 1 (gaS K "_law_integer") ["_law_value", "_law_due"] [] (spM (GG T) m_l_integer) :=
  okb_mk (T.c.def_ 33) (fun _ _ _ _ _ _ us hl => match us, hl with | [_, _], _ => rfl) fun fd F => fn_m (G := (GG T)) F sc_l_integer rfl (jvG T) fun cdv A outer s H E hr =>
    have tk : Takes (cxOf (L2.CX P w) P w K mg base n_l_integer "_law_integer" (defScope s_l_integer) (gaS K "_law_integer") cdv A outer s H E) (fun cls d _ H' => E cls d H') := takes_of rfl rfl rfl rfl
    (dss_one (ds_ret (de_and (de_cb (id := "isinstance") (cr_isi rfl) sim_isi (by rfl) (T.bl 1) (by decide +kernel) (da_cons (de_v (pv 0)) (da_cons (de_c (pe_bltn (v := .ty "int") (by rfl) (T.bl 2) (by decide +kernel) rfl) (fun _ => .ty "int")) da_nil))) (de_and (de_not (de_cb (id := "isinstance") (cr_isi rfl) sim_isi (by rfl) (T.bl 1) (by decide +kernel) (da_cons (de_v (pv 0)) (da_cons (de_c (pe_bltn (v := .ty "bool") (by rfl) (T.bl 0) (by decide +kernel) rfl) (fun _ => .ty "bool")) da_nil)))) (de_one (de_cmp (op_eq' rfl hr.units) sim_eq (de_v (pv 0)) (de_v (pv 1)) (nomark _)))))))
noncomputable abbrev le0_l_is : ME := (mBin (oOwnX "GreatNumber" (pureF m_GreatNumber___getitem__)) (mVar 0) (mVar 5))
noncomputable abbrev b_l_is : MS := (mSeq (mAsg (mCall (withD [] (pureF m_l_number)) (mCons (mVar 1) (mCons (mVar 2) (mCons (mVar 3) mNil)))) (gN 4))
      (mSeq (mIfS (mOrT (mNotT (mTru (mCall (withD [] (pureF m_l_integer)) (mCons (mProp "GreatNumber" (pureF m_GreatNumber_figures) (mVar 0)) (mCons (mCB oLen (mCons (mVar 2) mNil)) mNil))))) (mNotT (mTru (mCall (withD [] (pureF m_l_integer)) (mCons (mMeth "GreatNumber" "plain" (withD [] (pureF m_GreatNumber_plain)) (mVar 0) mNil) (mCons (mVar 4) mNil)))))) (mRet (mC (.bl false))) mSkip)
      (mSeq (mIfS (mOrT (mTst (mBin oNe (mProp "GreatNumber" (pureF m_GreatNumber_base_size) (mVar 0)) (mVar 3))) (mTst (mBin oNe (mProp "GreatNumber" (pureF m_GreatNumber_number_sign) (mVar 0)) (mIf (mTst (mBin oNe (mVar 2) (mTup mNil))) (mVar 1) (mC (.int 0)))))) (mRet (mC (.bl false))) mSkip)
      (mSeq (mIfS (mTst (mBin oNe (mLc [5] (mItR1 (mCons (mCB oLen (mCons (mVar 2) mNil)) mNil)) (gN 5) mYes le0_l_is) (mCB oList (mCons (mVar 2) mNil)))) (mRet (mC (.bl false))) mSkip)
      (mRet (mAnd (mUn oNot (mCB oIsi (mCons (mMeth "GreatNumber" "pieces" (withD [] (pureF m_GreatNumber_pieces)) (mVar 0) mNil) (mCons (mC (.ty "tuple")) mNil)))) (mBin oEq (mCall (withD [] (pureF m_l_figures)) (mCons (mMeth "GreatNumber" "pieces" (withD [] (pureF m_GreatNumber_pieces)) (mVar 0) mNil) mNil)) (mVar 2))))))))
noncomputable def m_l_is : MF := mFun 4 6 b_l_is
theorem ok_l_is (T : Tx tab exK fns K mg) : OkB P w K mg base 5 (gaS K "_law_is") ["_law_great", "_law_side", "_law_figures_here", "_law_size"] [] (spM (GG T) m_l_is) :=
  okb_mk (T.c.def_ 34) (fun _ _ _ _ _ _ us hl => match us, hl with | [_, _, _, _], _ => rfl) fun fd F => fn_m (G := (GG T)) F sc_l_is rfl (jvG T) fun cdv A outer s H E hr =>
    have tk : Takes (cxOf (L2.CX P w) P w K mg base n_l_is "_law_is" (defScope s_l_is) (gaS K "_law_is") cdv A outer s H E) (fun cls d _ H' => E cls d H') := takes_of rfl rfl rfl rfl
    (dss_cons (ds_set (i := 4) (stbG T) (fun p => ps_set (i := 4) sc_l_is.nd rfl (Or.inl rfl) p) (ck_pcall (ok_l_number T) dfl_nil (hr.mono (by decide)) (by rfl) (T.gl 15) tk (da_cons (de_v (pv 1)) (da_cons (de_v (pv 2)) (da_cons (de_v (pv 3)) da_nil)))))
      (dss_cons (ds_if (DW.dt (dw_or (dt_not (dt_tru rfl (ck_pcall (ok_l_integer T) dfl_nil (hr.mono (by decide)) (by rfl) (T.gl 16) tk (da_cons (ck_prop (c := "GreatNumber") (pureF m_GreatNumber_figures) rfl (mem_ix 0) (de_v (pv 0)) (T.tab.pr ("GreatNumber", "figures") (mem_ix 0)) (ok_GreatNumber_figures T) (hr.mono (by decide)) (.inr rfl) rfl) (da_cons (de_cb (id := "len") (cr_len rfl) sim_len (by rfl) (T.bl 5) (by decide +kernel) (da_cons (de_v (pv 2)) da_nil)) da_nil))))) (dw_or1 (dt_not (dt_tru rfl (ck_pcall (ok_l_integer T) dfl_nil (hr.mono (by decide)) (by rfl) (T.gl 16) tk (da_cons (ck_meth0 (c := "GreatNumber") (mth := "plain") (withD [] (pureF m_GreatNumber_plain)) rfl (mem_ix 0) (de_v (pv 0)) (T.tab.me ("GreatNumber", "plain") (mem_ix 3)) (ok_GreatNumber_plain T) (hr.mono (by decide)) dfl_nil tk (.inr rfl)) (da_cons (de_v (pv 4)) da_nil)))))))) (dss_one (ds_ret de_bl)) dss_nil)
      (dss_cons (ds_if (DW.dt (dw_or (dt_cmp (op_ne' rfl hr.units) sim_ne (ck_prop (c := "GreatNumber") (pureF m_GreatNumber_base_size) rfl (mem_ix 0) (de_v (pv 0)) (T.tab.pr ("GreatNumber", "base_size") (mem_ix 2)) (ok_GreatNumber_base_size T) (hr.mono (by decide)) (.inr rfl) rfl) (de_v (pv 3)) (nomark _)) (dw_or1 (dt_cmp (op_ne' rfl hr.units) sim_ne (ck_prop (c := "GreatNumber") (pureF m_GreatNumber_number_sign) rfl (mem_ix 0) (de_v (pv 0)) (T.tab.pr ("GreatNumber", "number_sign") (mem_ix 1)) (ok_GreatNumber_number_sign T) (hr.mono (by decide)) (.inr rfl) rfl) (de_if (dt_cmp (op_ne' rfl hr.units) sim_ne (de_v (pv 2)) (de_tup da_nil) (nomark _)) (de_v (pv 1)) de_int) (nomark _))))) (dss_one (ds_ret de_bl)) dss_nil)
      (dss_cons (ds_if (dt_cmp (op_ne' rfl hr.units) sim_ne (de_lc (own := [("_law_at", 5)]) (stbG T) (by rfl) sc_l_is.nd (by exact (di_range1 (fun p => pi_range1 (by rfl) (T.bl 9) p) (da_cons (de_cb (id := "len") (cr_len rfl) sim_len (by rfl) (T.bl 5) (by decide +kernel) (da_cons (de_v (pv 2)) da_nil)) da_nil))) (blkOk_by (own := [("_law_at", 5)]) (N := n_l_is) (sc := defScope s_l_is) (by decide +kernel)) (fun _ => by exact (dg_name (stbG T) (mem_ix 0) (pg_name (i := 5) sc_l_is.nd rfl (Or.inl rfl)))) (fun _ => by exact dts_nil) (fun _ => by exact (ck_ownX (c := "GreatNumber") (pureF m_GreatNumber___getitem__) rfl (de_v (pv 0)) (de_v (pv 5)) (T.tab.me ("GreatNumber", "__getitem__") (mem_ix 4)) (exf T 4) (ok_GreatNumber___getitem__ T) (hr.mono (by decide)) takes0 (.inr rfl) (fun _ _ => rfl)))) (de_ct (T := "list") (cr_list rfl) sim_list (by rfl) (T.bl 4) (by decide +kernel) (da_cons (de_v (pv 2)) da_nil)) (nomark _)) (dss_one (ds_ret de_bl)) dss_nil)
      (dss_one (ds_ret (de_and (de_not (de_cb (id := "isinstance") (cr_isi rfl) sim_isi (by rfl) (T.bl 1) (by decide +kernel) (da_cons (ck_meth0 (c := "GreatNumber") (mth := "pieces") (withD [] (pureF m_GreatNumber_pieces)) rfl (mem_ix 0) (de_v (pv 0)) (T.tab.me ("GreatNumber", "pieces") (mem_ix 1)) (ok_GreatNumber_pieces T) (hr.mono (by decide)) dfl_nil tk (.inr rfl)) (da_cons (de_c (pe_bltn (v := .ty "tuple") (by rfl) (T.bl 3) (by decide +kernel) rfl) (fun _ => .ty "tuple")) da_nil)))) (de_one (de_cmp (op_eq' rfl hr.units) sim_eq (ck_pcall (ok_l_figures T) dfl_nil (hr.mono (by decide)) (by rfl) (T.gl 17) tk (da_cons (ck_meth0 (c := "GreatNumber") (mth := "pieces") (withD [] (pureF m_GreatNumber_pieces)) rfl (mem_ix 0) (de_v (pv 0)) (T.tab.me ("GreatNumber", "pieces") (mem_ix 1)) (ok_GreatNumber_pieces T) (hr.mono (by decide)) dfl_nil tk (.inr rfl)) da_nil)) (de_v (pv 2)) (nomark _))))))))))
noncomputable abbrev b_l_turns : MS := (mSeq (mAsg (mIf (mTst (mBin oNe (mVar 2) (mTup mNil))) (mBin oMulT (mTup (mCons (mC (.int 0)) mNil)) (mVar 4)) (mTup mNil)) (gN 5))
      (mSeq (mIfS (mOrT (mNotT (mTru (mCall (withD [] (pureF m_l_is)) (mCons (mBin (oOwnI "GreatNumber" (pureF m_GreatNumber___lshift__)) (mVar 0) (mVar 4)) (mCons (mVar 1) (mCons (mBin oAdd (mVar 5) (mVar 2)) (mCons (mVar 3) mNil))))))) (mNotT (mTru (mCall (withD [] (pureF m_l_is)) (mCons (mOwn1 "GreatNumber" (pureF m_GreatNumber___neg__) (mVar 0)) (mCons (mBin oSub (mC (.int 0)) (mVar 1)) (mCons (mVar 2) (mCons (mVar 3) mNil)))))))) (mRet (mC (.bl false))) mSkip)
      (mSeq (mIfS (mOrT (mNotT (mTru (mCall (withD [] (pureF m_l_is)) (mCons (mCB (oOwn1 "GreatNumber" (pureF m_GreatNumber___abs__)) (mCons (mVar 0) mNil)) (mCons (mC (.int 1)) (mCons (mVar 2) (mCons (mVar 3) mNil))))))) (mNotT (mTru (mCall (withD [] (pureF m_l_is)) (mCons (mBin (oOwnI "GreatNumber" (pureF m_GreatNumber___lshift__)) (mVar 0) (mC (.int 0))) (mCons (mVar 1) (mCons (mVar 2) (mCons (mVar 3) mNil)))))))) (mRet (mC (.bl false))) mSkip)
      (mRet (mAnd (mBin (oOwnC "GreatNumber" (pureF m_GreatNumber___eq__)) (mOwn1 "GreatNumber" (pureF m_GreatNumber___neg__) (mOwn1 "GreatNumber" (pureF m_GreatNumber___neg__) (mVar 0))) (mVar 0)) (mBin oEq (mBin (oOwnC "GreatNumber" (pureF m_GreatNumber___eq__)) (mOwn1 "GreatNumber" (pureF m_GreatNumber___neg__) (mVar 0)) (mVar 0)) (mBin oEq (mVar 2) (mTup mNil))))))))
noncomputable def m_l_turns : MF := mFun 5 6 b_l_turns
theorem ok_l_turns (T : Tx tab exK fns K mg) : OkB P w K mg base 10 (gaS K "_law_turns") ["_law_great", "_law_side", "_law_figures_here", "_law_size", "_law_count"] [] (spM (GG T) m_l_turns) :=
  okb_mk (T.c.def_ 35) (fun _ _ _ _ _ _ us hl => match us, hl with | [_, _, _, _, _], _ => rfl) fun fd F => fn_m (G := (GG T)) F sc_l_turns rfl (jvG T) fun cdv A outer s H E hr =>
    have tk : Takes (cxOf (L2.CX P w) P w K mg base n_l_turns "_law_turns" (defScope s_l_turns) (gaS K "_law_turns") cdv A outer s H E) (fun cls d _ H' => E cls d H') := takes_of rfl rfl rfl rfl
    (dss_cons (ds_set (i := 5) (stbG T) (fun p => ps_set (i := 5) sc_l_turns.nd rfl (Or.inl rfl) p) (de_if (dt_cmp (op_ne' rfl hr.units) sim_ne (de_v (pv 2)) (de_tup da_nil) (nomark _)) (de_op (op_tm' rfl) sim_mulT (de_tup (da_cons de_int da_nil)) (de_v (pv 4))) (de_tup da_nil)))
      (dss_cons (ds_if (DW.dt (dw_or (dt_not (dt_tru rfl (ck_pcall (ok_l_is T) dfl_nil (hr.mono (by decide)) (by rfl) (T.gl 18) tk (da_cons (de_opS (or_ownI (c := "GreatNumber") rfl (ownIB_ok (exf T 5)) (T.tab.me ("GreatNumber", "__lshift__") (mem_ix 6)) (ok_GreatNumber___lshift__ T) (hr.mono (by decide)) tk) (sim_ownI (gset (.inr rfl))) (de_v (pv 0)) (de_v (pv 4))) (da_cons (de_v (pv 1)) (da_cons (de_op (op_adds rfl) sim_add (de_v (pv 5)) (de_v (pv 2))) (da_cons (de_v (pv 3)) da_nil))))))) (dw_or1 (dt_not (dt_tru rfl (ck_pcall (ok_l_is T) dfl_nil (hr.mono (by decide)) (by rfl) (T.gl 18) tk (da_cons (ck_ownNeg (c := "GreatNumber") (pureF m_GreatNumber___neg__) rfl (de_v (pv 0)) (T.tab.me ("GreatNumber", "__neg__") (mem_ix 5)) (ok_GreatNumber___neg__ T) (hr.mono (by decide)) tk (.inr rfl)) (da_cons (de_op op_sub sim_sub de_int (de_v (pv 1))) (da_cons (de_v (pv 2)) (da_cons (de_v (pv 3)) da_nil)))))))))) (dss_one (ds_ret de_bl)) dss_nil)
      (dss_cons (ds_if (DW.dt (dw_or (dt_not (dt_tru rfl (ck_pcall (ok_l_is T) dfl_nil (hr.mono (by decide)) (by rfl) (T.gl 18) tk (da_cons (de_cbS (id := "abs") (or_ownAbs (c := "GreatNumber") rfl (T.tab.me ("GreatNumber", "__abs__") (mem_ix 7)) (ok_GreatNumber___abs__ T) (hr.mono (by decide)) tk) (sim_ownAbs (gset (.inr rfl))) (by rfl) (T.bl 10) (by decide +kernel) (da_cons (de_v (pv 0)) da_nil)) (da_cons de_int (da_cons (de_v (pv 2)) (da_cons (de_v (pv 3)) da_nil))))))) (dw_or1 (dt_not (dt_tru rfl (ck_pcall (ok_l_is T) dfl_nil (hr.mono (by decide)) (by rfl) (T.gl 18) tk (da_cons (de_opS (or_ownI (c := "GreatNumber") rfl (ownIB_ok (exf T 5)) (T.tab.me ("GreatNumber", "__lshift__") (mem_ix 6)) (ok_GreatNumber___lshift__ T) (hr.mono (by decide)) tk) (sim_ownI (gset (.inr rfl))) (de_v (pv 0)) de_int) (da_cons (de_v (pv 1)) (da_cons (de_v (pv 2)) (da_cons (de_v (pv 3)) da_nil)))))))))) (dss_one (ds_ret de_bl)) dss_nil)
      (dss_one (ds_ret (de_and (de_cmpS (or_ownC (c := "GreatNumber") (op := .Eq) (fun _ _ => rfl) rfl (T.tab.me ("GreatNumber", "__eq__") (mem_ix 8)) (ok_GreatNumber___eq__ T) (hr.mono (by decide)) tk) (sim_ownC (mem_ix 0) (gset (.inr rfl))) (ck_ownNeg (c := "GreatNumber") (pureF m_GreatNumber___neg__) rfl (ck_ownNeg (c := "GreatNumber") (pureF m_GreatNumber___neg__) rfl (de_v (pv 0)) (T.tab.me ("GreatNumber", "__neg__") (mem_ix 5)) (ok_GreatNumber___neg__ T) (hr.mono (by decide)) tk (.inr rfl)) (T.tab.me ("GreatNumber", "__neg__") (mem_ix 5)) (ok_GreatNumber___neg__ T) (hr.mono (by decide)) tk (.inr rfl)) (de_v (pv 0)) (nomark _)) (de_one (de_cmp (op_eq' rfl hr.units) sim_eq (de_cmpS (or_ownC (c := "GreatNumber") (op := .Eq) (fun _ _ => rfl) rfl (T.tab.me ("GreatNumber", "__eq__") (mem_ix 8)) (ok_GreatNumber___eq__ T) (hr.mono (by decide)) tk) (sim_ownC (mem_ix 0) (gset (.inr rfl))) (ck_ownNeg (c := "GreatNumber") (pureF m_GreatNumber___neg__) rfl (de_v (pv 0)) (T.tab.me ("GreatNumber", "__neg__") (mem_ix 5)) (ok_GreatNumber___neg__ T) (hr.mono (by decide)) tk (.inr rfl)) (de_v (pv 0)) (nomark _)) (de_cmp (op_eq' rfl hr.units) sim_eq (de_v (pv 2)) (de_tup da_nil) (nomark _)) (nomark _)))))))))
noncomputable abbrev lf0_l_rests : MS := (mIfS (mNotT (mTru (mCall (withD [] (pureF m_l_integer)) (mCons (mMeth "GreatNumber" "remainder" (withD [] (pureF m_GreatNumber_remainder)) (mVar 0) (mCons (mVar 3) mNil)) (mCons (mBin oSub (mVar 1) (mBin oMul (mBin oFdiv (mVar 1) (mVar 3)) (mVar 3))) mNil))))) (mRet (mC (.bl false))) mSkip)
noncomputable abbrev b_l_rests : MS := (mSeq (mFor (mItS (mLst (mCons (mC (.int 1)) (mCons (mC (.int 2)) (mCons (mBin oAdd (mC (.int 1)) (mCall (withD [] m_l_draw) (mCons (mVar 2) (mCons (mC (.int 50)) mNil)))) (mCons (mBin oAdd (mC (.int 1)) (mCall (withD [] m_l_draw) (mCons (mVar 2) (mCons (mBin oPow (mC (.int 10)) (mC (.int 18))) mNil)))) (mCons (mBin oPow (mC (.int 10)) (mC (.int 18))) mNil))))))) (gN 3)
      lf0_l_rests)
      (mRet (mC (.bl true))))
noncomputable def m_l_rests : MF := mFun 3 4 b_l_rests
theorem ok_l_rests (T : Tx tab exK fns K mg) : OkB P w K mg base 5 (gaS K "_law_rests") ["_law_great", "_law_number_here", "_law_pool_here"] [] (spM (GG T) m_l_rests) :=
  okb_mk (T.c.def_ 36) (fun _ _ _ _ _ _ us hl => match us, hl with | [_, _, _], _ => rfl) fun fd F => fn_m (G := (GG T)) F sc_l_rests rfl (jvG T) fun cdv A outer s H E hr =>
    have tk : Takes (cxOf (L2.CX P w) P w K mg base n_l_rests "_law_rests" (defScope s_l_rests) (gaS K "_law_rests") cdv A outer s H E) (fun cls d _ H' => E cls d H') := takes_of rfl rfl rfl rfl
    (dss_cons (ds_for (vs := [3]) (passes_of rfl) (by rfl) (di_seq rfl (de_lst (da_cons de_int (da_cons de_int (da_cons (de_op (op_adds rfl) sim_add de_int (ck_call (ok_l_draw T) dfl_nil (hr.mono (by decide)) (by rfl) (T.gl 14) tk (da_cons (de_v (pv 2)) (da_cons de_int da_nil)))) (da_cons (de_op (op_adds rfl) sim_add de_int (ck_call (ok_l_draw T) dfl_nil (hr.mono (by decide)) (by rfl) (T.gl 14) tk (da_cons (de_v (pv 2)) (da_cons (de_op op_pow sim_pow de_int de_int) da_nil)))) (da_cons (de_op op_pow sim_pow de_int de_int) da_nil))))))) (dg_name (stbG T) (mem_ix 0) (pg_name (i := 3) sc_l_rests.nd rfl (Or.inl rfl)))
      (dss_one (ds_if (dt_not (dt_tru rfl (ck_pcall (ok_l_integer T) dfl_nil (hr.mono (by decide)) (by rfl) (T.gl 16) tk (da_cons (ck_meth (c := "GreatNumber") (mth := "remainder") (withD [] (pureF m_GreatNumber_remainder)) rfl (mem_ix 0) (de_v (pv 0)) (T.tab.me ("GreatNumber", "remainder") (mem_ix 9)) (ok_GreatNumber_remainder T) (hr.mono (by decide)) dfl_nil tk (.inr rfl) (da_cons (de_v (pv 3)) da_nil)) (da_cons (de_op op_sub sim_sub (de_v (pv 1)) (de_op op_muls sim_mul (de_op op_fdivX sim_fdiv (de_v (pv 1)) (de_v (pv 3))) (de_v (pv 3)))) da_nil))))) (dss_one (ds_ret de_bl)) dss_nil)))
      (dss_one (ds_ret de_bl)))
noncomputable abbrev b_l_order : MS := (mSeq (mIfS (mOrT (mTst (mBin oNe (mBin (oOwnC "GreatNumber" (pureF m_GreatNumber___eq__)) (mVar 0) (mVar 1)) (mBin oEq (mBin oIx (mVar 2) (mC (.int 0))) (mBin oIx (mVar 2) (mC (.int 1)))))) (mTst (mBin oNe (mBin (oOwnC "GreatNumber" (pureF m_GreatNumber___lt__)) (mVar 0) (mVar 1)) (mBin oLt (mBin oIx (mVar 2) (mC (.int 0))) (mBin oIx (mVar 2) (mC (.int 1))))))) (mRet (mC (.bl false))) mSkip)
      (mRet (mAnd (mBin oEq (mBin (oOwnC "GreatNumber" (pureF m_GreatNumber___lt__)) (mVar 1) (mVar 0)) (mBin oLt (mBin oIx (mVar 2) (mC (.int 1))) (mBin oIx (mVar 2) (mC (.int 0))))) (mBin oEq (mBin (oOwnG "GreatNumber" (pureF m_GreatNumber___lt__)) (mVar 0) (mVar 1)) (mBin oGt (mBin oIx (mVar 2) (mC (.int 0))) (mBin oIx (mVar 2) (mC (.int 1))))))))
noncomputable def m_l_order : MF := mFun 3 3 b_l_order
theorem ok_l_order (T : Tx tab exK fns K mg) : OkB P w K mg base 5 (gaS K "_law_order") ["_law_one", "_law_other", "_law_numbers"] [] (spM (GG T) m_l_order) :=
  okb_mk (T.c.def_ 37) (fun _ _ _ _ _ _ us hl => match us, hl with | [_, _, _], _ => rfl) fun fd F => fn_m (G := (GG T)) F sc_l_order rfl (jvG T) fun cdv A outer s H E hr =>
    have tk : Takes (cxOf (L2.CX P w) P w K mg base n_l_order "_law_order" (defScope s_l_order) (gaS K "_law_order") cdv A outer s H E) (fun cls d _ H' => E cls d H') := takes_of rfl rfl rfl rfl
    (dss_cons (ds_if (DW.dt (dw_or (dt_cmp (op_ne' rfl hr.units) sim_ne (de_cmpS (or_ownC (c := "GreatNumber") (op := .Eq) (fun _ _ => rfl) rfl (T.tab.me ("GreatNumber", "__eq__") (mem_ix 8)) (ok_GreatNumber___eq__ T) (hr.mono (by decide)) tk) (sim_ownC (mem_ix 0) (gset (.inr rfl))) (de_v (pv 0)) (de_v (pv 1)) (nomark _)) (de_cmp (op_eq' rfl hr.units) sim_eq (de_ix rfl (de_v (pv 2)) de_int (fun _ _ => rfl)) (de_ix rfl (de_v (pv 2)) de_int (fun _ _ => rfl)) (nomark _)) (nomark _)) (dw_or1 (dt_cmp (op_ne' rfl hr.units) sim_ne (de_cmpS (or_ownC (c := "GreatNumber") (op := .Lt) (fun _ _ => rfl) rfl (T.tab.me ("GreatNumber", "__lt__") (mem_ix 10)) (ok_GreatNumber___lt__ T) (hr.mono (by decide)) tk) (sim_ownC (mem_ix 0) (gset (.inr rfl))) (de_v (pv 0)) (de_v (pv 1)) (nomark _)) (de_cmp op_lt sim_lt (de_ix rfl (de_v (pv 2)) de_int (fun _ _ => rfl)) (de_ix rfl (de_v (pv 2)) de_int (fun _ _ => rfl)) (nomark _)) (nomark _))))) (dss_one (ds_ret de_bl)) dss_nil)
      (dss_one (ds_ret (de_and (de_cmp (op_eq' rfl hr.units) sim_eq (de_cmpS (or_ownC (c := "GreatNumber") (op := .Lt) (fun _ _ => rfl) rfl (T.tab.me ("GreatNumber", "__lt__") (mem_ix 10)) (ok_GreatNumber___lt__ T) (hr.mono (by decide)) tk) (sim_ownC (mem_ix 0) (gset (.inr rfl))) (de_v (pv 1)) (de_v (pv 0)) (nomark _)) (de_cmp op_lt sim_lt (de_ix rfl (de_v (pv 2)) de_int (fun _ _ => rfl)) (de_ix rfl (de_v (pv 2)) de_int (fun _ _ => rfl)) (nomark _)) (nomark _)) (de_one (de_cmp (op_eq' rfl hr.units) sim_eq (de_cmpS (or_ownG (c := "GreatNumber") rfl (mem_ix 0) (eqI_of (exf T 6)) (T.tab.me ("GreatNumber", "__lt__") (mem_ix 10)) (ok_GreatNumber___lt__ T) (hr.mono (by decide)) tk) (sim_ownG (gset (.inr rfl))) (de_v (pv 0)) (de_v (pv 1)) (nomark _)) (de_cmp op_gt sim_gt (de_ix rfl (de_v (pv 2)) de_int (fun _ _ => rfl)) (de_ix rfl (de_v (pv 2)) de_int (fun _ _ => rfl)) (nomark _)) (nomark _)))))))
noncomputable abbrev b_l_no_order : MS := (mTry 4 "Unlike"
      (mSeq (mAsg (mBin (oOwnC "GreatNumber" (pureF m_GreatNumber___lt__)) (mVar 0) (mVar 1)) (gN 3))
      (mRet (mIsN (mVar 3))))
      (fun fs => (mRet (mAnd (mBin oEq (mTup (mCons (mXf fs "one") (mCons (mXf fs "other") mNil))) (mVar 2)) (mBin (oOwnN "GreatNumber" mw_GreatNumber___eq__) (mVar 0) (mVar 1))))))
noncomputable def m_l_no_order : MF := mFun 3 5 b_l_no_order
theorem ok_l_no_order (T : Tx tab exK fns K mg) : OkB P w K mg base 5 (gaS K "_law_no_order") ["_law_one", "_law_other", "_law_sizes"] [] (spM (GG T) m_l_no_order) :=
  okb_mk (T.c.def_ 38) (fun _ _ _ _ _ _ us hl => match us, hl with | [_, _, _], _ => rfl) fun fd F => fn_m (G := (GG T)) F sc_l_no_order rfl (jvG T) fun cdv A outer s H E hr =>
    have tk : Takes (cxOf (L2.CX P w) P w K mg base n_l_no_order "_law_no_order" (defScope s_l_no_order) (gaS K "_law_no_order") cdv A outer s H E) (fun cls d _ H' => E cls d H') := takes_of rfl rfl rfl rfl
    (dss_one (ds_try_as (i := 4) (c0 := "Unlike") (jvG T) rfl (mem_ix 0) rfl rfl sc_l_no_order.nd rfl rfl ⟨(by rfl), by decide, .inl (T.gl 10)⟩ tk
      (fun W pn xe tk po => (dss_cons (ds_set (i := 3) (stbG T) (fun p => ps_set (i := 3) sc_l_no_order.nd rfl (Or.inl rfl) p) (de_cmpS (or_ownC (c := "GreatNumber") (op := .Lt) (fun _ _ => rfl) rfl (T.tab.me ("GreatNumber", "__lt__") (mem_ix 10)) (ok_GreatNumber___lt__ T) (hr.mono (by decide)) tk) (sim_ownC (mem_ix 0) (gset (.inr rfl))) (de_v (pv 0)) (de_v (pv 1)) (nomark _)))
      (dss_one (ds_ret (de_isN (de_v (pv 3)))))))
      (fun fs a oe d pn hz hf => (dss_one (ds_ret (de_and (de_cmp (op_eq' rfl hr.units) sim_eq (de_tup (da_cons (de_xf (f := "one") (pe_xf (oxB_ok (k := .re) (c := "Unlike") (exf T 2)).xf (eqI_of (exf T 9)) hz hf (pv 4))) (da_cons (de_xf (f := "other") (pe_xf (oxB_ok (k := .re) (c := "Unlike") (exf T 2)).xf (eqI_of (exf T 8)) hz hf (pv 4))) da_nil))) (de_v (pv 2)) (nomark _)) (de_one (de_cmpS (or_ownNW (c := "GreatNumber") rfl (mem_ix 0) (eqI_of (exf T 7)) (T.tab.me ("GreatNumber", "__eq__") (mem_ix 8)) (okw_sx (okw_GreatNumber___eq__ T)) (room_suite (hr.mono (by decide))) takes0) (sim_ownN (mem_ix 0) (gset (.inl rfl))) (de_v (pv 0)) (de_v (pv 1)) (nomark _)))))))))
noncomputable abbrev lf0_law : MS := (mSeq (mPar [7, 8] (mCons (mBin oIx (mLst (mCons (mC (.int 1)) (mCons (mUn oNeg (mC (.int 1))) mNil))) (mCall (withD [] m_l_draw) (mCons (mVar 2) (mCons (mC (.int 2)) mNil)))) (mCons (mCall (trimF (withD [] m_l_pieces)) (mCons (mVar 2) (mCons (mVar 3) (mCons (mC (.int 4)) (mCons (mC (.int 5)) mNil))))) mNil)))
      (mSeq (mAsg (mCB oListC (mCons (mVar 8) mNil)) (gN 9))
      (mSeq (mAsg (mCMeth "GreatNumber" m_GreatNumber_from_pieces (mCons (mVar 3) (mCons (mVar 7) (mCons (mVar 9) mNil)))) (gN 10))
      (mSeq (mExpr (mLM0 oClear (mVar 9)))
      (mSeq (mIfS (mTst (mBin oNe (mMeth "GreatNumber" "pieces" (withD [] (pureF m_GreatNumber_pieces)) (mVar 10) mNil) (mVar 8))) (mRet (mC (.bl false))) mSkip)
      (mSeq (mAsg (mCall (withD [] (pureF m_l_figures)) (mCons (mVar 8) mNil)) (gN 11))
      (mSeq (mAsg (mCall (withD [] (pureF m_l_number)) (mCons (mVar 7) (mCons (mVar 11) (mCons (mVar 3) mNil)))) (gN 12))
      (mSeq (mIfS (mOrT (mNotT (mTru (mCall (withD [] (pureF m_l_is)) (mCons (mVar 10) (mCons (mVar 7) (mCons (mVar 11) (mCons (mVar 3) mNil))))))) (mNotT (mTru (mCall (withD [] m_l_rests) (mCons (mVar 10) (mCons (mVar 12) (mCons (mVar 2) mNil))))))) (mRet (mC (.bl false))) mSkip)
      (mSeq (mIfS (mNotT (mTru (mCall (withD [] (pureF m_l_turns)) (mCons (mVar 10) (mCons (mVar 7) (mCons (mVar 11) (mCons (mVar 3) (mCons (mCall (withD [] m_l_draw) (mCons (mVar 2) (mCons (mC (.int 6)) mNil))) mNil)))))))) (mRet (mC (.bl false))) mSkip)
      (mSeq (mIfS (mOrT (mNotT (mTru (mCall (withD [] (pureF m_l_is)) (mCons (mVar 10) (mCons (mVar 7) (mCons (mVar 11) (mCons (mVar 3) mNil))))))) (mOrT (mTst (mBin (oOwnC "GreatNumber" (pureF m_GreatNumber___eq__)) (mVar 10) (mVar 12))) (mTst (mBin (oOwnC "GreatNumber" (pureF m_GreatNumber___eq__)) (mVar 10) (mC .non))))) (mRet (mC (.bl false))) mSkip)
      (mSeq (mExpr (mLM oAppend (mVar 4) (mCons (mVar 10) mNil)))
      (mExpr (mLM oAppend (mVar 5) (mCons (mVar 12) mNil))))))))))))))
noncomputable abbrev lf1_law : MS := (mSeq (mAsg (mCall (withD [] m_l_pool) (mCons (mVar 0) (mCons (mVar 1) mNil))) (gN 2))
      (mSeq (mPar [3, 4, 5] (mCons (mBin oAdd (mC (.int 2)) (mCall (withD [] m_l_draw) (mCons (mVar 2) (mCons (mC (.int 9)) mNil)))) (mCons (mLstC mNil) (mCons (mLstC mNil) mNil))))
      (mSeq (mFor (mItR1 (mCons (mC (.int 2)) mNil)) (gN 6)
      lf0_law)
      (mSeq (mIfS (mOrT (mNotT (mTru (mCall (withD [] m_l_order) (mCons (mBin oIx (mVar 4) (mC (.int 0))) (mCons (mBin oIx (mVar 4) (mC (.int 1))) (mCons (mVar 5) mNil)))))) (mOrT (mNotT (mTst (mBin (oOwnC "GreatNumber" (pureF m_GreatNumber___eq__)) (mBin oIx (mVar 4) (mC (.int 0))) (mBin oIx (mVar 4) (mC (.int 0)))))) (mTst (mBin (oOwnC "GreatNumber" (pureF m_GreatNumber___lt__)) (mBin oIx (mVar 4) (mC (.int 0))) (mBin oIx (mVar 4) (mC (.int 0))))))) (mRet (mC (.bl false))) mSkip)
      (mSeq (mAsg (mCall (makeP "GreatNumber" m_GreatNumber___init__) (mCons (mIf (mTst (mBin oLt (mVar 3) (mC (.int 9)))) (mBin oSub (mC (.int 11)) (mVar 3)) (mC (.int 3))) (mCons (mC (.int 1)) (mCons (mTup (mCons (mTup (mCons (mC (.int 1)) mNil)) (mCons (mC (.int 2)) mNil))) mNil)))) (gN 13))
      (mIfS (mAndT (mTst (mBin oNe (mVar 3) (mProp "GreatNumber" (pureF m_GreatNumber_base_size) (mVar 13)))) (mNotT (mTru (mCall (withD [] (pureF m_l_no_order)) (mCons (mBin oIx (mVar 4) (mC (.int 0))) (mCons (mVar 13) (mCons (mTup (mCons (mVar 3) (mCons (mProp "GreatNumber" (pureF m_GreatNumber_base_size) (mVar 13)) mNil))) mNil))))))) (mRet (mC (.bl false))) mSkip))))))
noncomputable abbrev b_law : MS := (mSeq (mFor (mItR1 (mCons (mCB oMax (mCons (mC (.int 1)) (mCons (mCB oMin (mCons (mCB oLen (mCons (mVar 0) mNil)) (mCons (mC (.int 8)) mNil))) mNil))) mNil)) (gN 1)
      lf1_law)
      (mRet (mC (.bl true))))
noncomputable def m_law : MF := mFun 1 14 b_law
theorem fn_law (T : Tx tab exK fns K mg) : ∀ fd, FunD K "law" "law" (defArgs s_law) (defBody s_law) (defScope s_law) [] [] (gaS K "law") fd → FnOk P w K mg base (L2.CX P w) 11 (gaS K "law") fd ["_law_script"] (spM (GG T) m_law) :=
  fun fd F => fn_m (G := (GG T)) F sc_law rfl (jvG T) fun cdv A outer s H E hr =>
    have tk : Takes (cxOf (L2.CX P w) P w K mg base n_law "law" (defScope s_law) (gaS K "law") cdv A outer s H E) (fun cls d _ H' => E cls d H') := takes_of rfl rfl rfl rfl
    (dss_cons (ds_for (vs := [1]) (passes_of rfl) (by rfl) (di_range1 (fun p => pi_range1 (by rfl) (T.bl 9) p) (da_cons (de_cb (id := "max") (call_max2 (by rfl)) sim_I2 (by rfl) (T.bl 12) (by decide +kernel) (da_cons de_int (da_cons (de_cb (id := "min") (call_min2 (by rfl)) sim_I2 (by rfl) (T.bl 11) (by decide +kernel) (da_cons (de_cb (id := "len") (cr_len rfl) sim_len (by rfl) (T.bl 5) (by decide +kernel) (da_cons (de_v (pv 0)) da_nil)) (da_cons de_int da_nil))) da_nil))) da_nil)) (dg_name (stbG T) (mem_ix 0) (pg_name (i := 1) sc_law.nd rfl (Or.inl rfl)))
      (dss_cons (ds_set (i := 2) (stbG T) (fun p => ps_set (i := 2) sc_law.nd rfl (Or.inl rfl) p) (ck_call (ok_l_pool T) dfl_nil (hr.mono (by decide)) (by rfl) (T.gl 19) tk (da_cons (de_v (pv 0)) (da_cons (de_v (pv 1)) da_nil))))
      (dss_cons (ds_par3 (i := 3) (j := 4) (l := 5) (stbG T) (fun p => ps_par3 (i := 3) (j := 4) (l := 5) (by rfl) sc_law.nd rfl rfl rfl (by decide) (by decide) (by decide) rfl rfl rfl p (by rfl)) rfl (da_cons (de_op (op_adds rfl) sim_add de_int (ck_call (ok_l_draw T) dfl_nil (hr.mono (by decide)) (by rfl) (T.gl 14) tk (da_cons (de_v (pv 2)) (da_cons de_int da_nil)))) (da_cons (de_lstC da_nil) (da_cons (de_lstC da_nil) da_nil))))
      (dss_cons (ds_for (vs := [6]) (passes_of rfl) (by rfl) (di_range1 (fun p => pi_range1 (by rfl) (T.bl 9) p) (da_cons de_int da_nil)) (dg_name (stbG T) (mem_ix 0) (pg_name (i := 6) sc_law.nd rfl (Or.inl rfl)))
      (dss_cons (ds_par (stbG T) (fun p => ps_par (i := 7) (j := 8) (by rfl) sc_law.nd rfl rfl (by decide) rfl rfl p (by rfl)) (da_cons (de_ix rfl (de_lst (da_cons de_int (da_cons (de_neg de_int) da_nil))) (ck_call (ok_l_draw T) dfl_nil (hr.mono (by decide)) (by rfl) (T.gl 14) tk (da_cons (de_v (pv 2)) (da_cons de_int da_nil))) (fun _ _ => rfl)) (da_cons (ck_tcall (ok_l_pieces T) dfl_nil (hr.mono (by decide)) (by rfl) (T.gl 20) tk (da_cons (de_v (pv 2)) (da_cons (de_v (pv 3)) (da_cons de_int (da_cons de_int da_nil))))) da_nil)))
      (dss_cons (ds_set (i := 9) (stbG T) (fun p => ps_set (i := 9) sc_law.nd rfl (Or.inl rfl) p) (de_ct (T := "list") (cr_list rfl) sim_listC (by rfl) (T.bl 4) (by decide +kernel) (da_cons (de_v (pv 8)) da_nil)))
      (dss_cons (ds_set (i := 10) (stbG T) (fun p => ps_set (i := 10) sc_law.nd rfl (Or.inl rfl) p) (ck_cm (c := "GreatNumber") (mth := "from_pieces") m_GreatNumber_from_pieces rfl (mem_ix 0) (pe_glob (v := .ref (gaS K "GreatNumber")) (by rfl) (T.gl 7) rfl) (crdB_ok (exf T 10)) (cmB_ok (exf T 11)) (OkB.r (ok_GreatNumber_from_pieces T)) (hr.mono (by decide)) tk (.inl rfl) (da_cons (de_v (pv 3)) (da_cons (de_v (pv 7)) (da_cons (de_v (pv 9)) da_nil)))))
      (dss_cons (ds_expr (fun p => ps_expr p) (de_lm0 rfl (fun a => pe_bm0 PySem.F.plainAttrs_list PySem.F.slot_list_clear PySem.F.type_list_clear mt_clear a) sim_clear (de_v (pv 9))))
      (dss_cons (ds_if (dt_cmp (op_ne' rfl hr.units) sim_ne (ck_meth0 (c := "GreatNumber") (mth := "pieces") (withD [] (pureF m_GreatNumber_pieces)) rfl (mem_ix 0) (de_v (pv 10)) (T.tab.me ("GreatNumber", "pieces") (mem_ix 1)) (ok_GreatNumber_pieces T) (hr.mono (by decide)) dfl_nil tk (.inr rfl)) (de_v (pv 8)) (nomark _)) (dss_one (ds_ret de_bl)) dss_nil)
      (dss_cons (ds_set (i := 11) (stbG T) (fun p => ps_set (i := 11) sc_law.nd rfl (Or.inl rfl) p) (ck_pcall (ok_l_figures T) dfl_nil (hr.mono (by decide)) (by rfl) (T.gl 17) tk (da_cons (de_v (pv 8)) da_nil)))
      (dss_cons (ds_set (i := 12) (stbG T) (fun p => ps_set (i := 12) sc_law.nd rfl (Or.inl rfl) p) (ck_pcall (ok_l_number T) dfl_nil (hr.mono (by decide)) (by rfl) (T.gl 15) tk (da_cons (de_v (pv 7)) (da_cons (de_v (pv 11)) (da_cons (de_v (pv 3)) da_nil)))))
      (dss_cons (ds_if (DW.dt (dw_or (dt_not (dt_tru rfl (ck_pcall (ok_l_is T) dfl_nil (hr.mono (by decide)) (by rfl) (T.gl 18) tk (da_cons (de_v (pv 10)) (da_cons (de_v (pv 7)) (da_cons (de_v (pv 11)) (da_cons (de_v (pv 3)) da_nil))))))) (dw_or1 (dt_not (dt_tru rfl (ck_call (ok_l_rests T) dfl_nil (hr.mono (by decide)) (by rfl) (T.gl 21) tk (da_cons (de_v (pv 10)) (da_cons (de_v (pv 12)) (da_cons (de_v (pv 2)) da_nil))))))))) (dss_one (ds_ret de_bl)) dss_nil)
      (dss_cons (ds_if (dt_not (dt_tru rfl (ck_pcall (ok_l_turns T) dfl_nil (hr.mono (by decide)) (by rfl) (T.gl 22) tk (da_cons (de_v (pv 10)) (da_cons (de_v (pv 7)) (da_cons (de_v (pv 11)) (da_cons (de_v (pv 3)) (da_cons (ck_call (ok_l_draw T) dfl_nil (hr.mono (by decide)) (by rfl) (T.gl 14) tk (da_cons (de_v (pv 2)) (da_cons de_int da_nil))) da_nil)))))))) (dss_one (ds_ret de_bl)) dss_nil)
      (dss_cons (ds_if (DW.dt (dw_or (dt_not (dt_tru rfl (ck_pcall (ok_l_is T) dfl_nil (hr.mono (by decide)) (by rfl) (T.gl 18) tk (da_cons (de_v (pv 10)) (da_cons (de_v (pv 7)) (da_cons (de_v (pv 11)) (da_cons (de_v (pv 3)) da_nil))))))) (dw_or (dt_cmpS (or_ownC (c := "GreatNumber") (op := .Eq) (fun _ _ => rfl) rfl (T.tab.me ("GreatNumber", "__eq__") (mem_ix 8)) (ok_GreatNumber___eq__ T) (hr.mono (by decide)) tk) (sim_ownC (mem_ix 0) (gset (.inr rfl))) (de_v (pv 10)) (de_v (pv 12)) (nomark _)) (dw_or1 (dt_cmpS (or_ownC (c := "GreatNumber") (op := .Eq) (fun _ _ => rfl) rfl (T.tab.me ("GreatNumber", "__eq__") (mem_ix 8)) (ok_GreatNumber___eq__ T) (hr.mono (by decide)) tk) (sim_ownC (mem_ix 0) (gset (.inr rfl))) (de_v (pv 10)) de_non (nomark _)))))) (dss_one (ds_ret de_bl)) dss_nil)
      (dss_cons (ds_expr (fun p => ps_expr p) (de_lm rfl (fun a b => pe_bm PySem.F.plainAttrs_list PySem.F.slot_list_append PySem.F.type_list_append mt_append a b) sim_append (de_v (pv 4)) (da_cons (de_v (pv 10)) da_nil)))
      (dss_one (ds_expr (fun p => ps_expr p) (de_lm rfl (fun a b => pe_bm PySem.F.plainAttrs_list PySem.F.slot_list_append PySem.F.type_list_append mt_append a b) sim_append (de_v (pv 5)) (da_cons (de_v (pv 12)) da_nil))))))))))))))))
      (dss_cons (ds_if (DW.dt (dw_or (dt_not (dt_tru rfl (ck_call (ok_l_order T) dfl_nil (hr.mono (by decide)) (by rfl) (T.gl 23) tk (da_cons (de_ix rfl (de_v (pv 4)) de_int (fun _ _ => rfl)) (da_cons (de_ix rfl (de_v (pv 4)) de_int (fun _ _ => rfl)) (da_cons (de_v (pv 5)) da_nil)))))) (dw_or (dt_not (dt_cmpS (or_ownC (c := "GreatNumber") (op := .Eq) (fun _ _ => rfl) rfl (T.tab.me ("GreatNumber", "__eq__") (mem_ix 8)) (ok_GreatNumber___eq__ T) (hr.mono (by decide)) tk) (sim_ownC (mem_ix 0) (gset (.inr rfl))) (de_ix rfl (de_v (pv 4)) de_int (fun _ _ => rfl)) (de_ix rfl (de_v (pv 4)) de_int (fun _ _ => rfl)) (nomark _))) (dw_or1 (dt_cmpS (or_ownC (c := "GreatNumber") (op := .Lt) (fun _ _ => rfl) rfl (T.tab.me ("GreatNumber", "__lt__") (mem_ix 10)) (ok_GreatNumber___lt__ T) (hr.mono (by decide)) tk) (sim_ownC (mem_ix 0) (gset (.inr rfl))) (de_ix rfl (de_v (pv 4)) de_int (fun _ _ => rfl)) (de_ix rfl (de_v (pv 4)) de_int (fun _ _ => rfl)) (nomark _)))))) (dss_one (ds_ret de_bl)) dss_nil)
      (dss_cons (ds_set (i := 13) (stbG T) (fun p => ps_set (i := 13) sc_law.nd rfl (Or.inl rfl) p) (ck_makeR (c := "GreatNumber") rfl (mem_ix 0) (T.tab.ms "GreatNumber" (mem_ix 0)) (ok_GreatNumber___init__ T) (hr.mono (by decide)) (by rfl) (T.gl 7) tk (da_cons (de_if (dt_cmp op_lt sim_lt (de_v (pv 3)) de_int (nomark _)) (de_op op_sub sim_sub de_int (de_v (pv 3))) de_int) (da_cons de_int (da_cons (de_tup (da_cons (de_tup (da_cons de_int da_nil)) (da_cons de_int da_nil))) da_nil)))))
      (dss_one (ds_if (DW.dt (dw_and (dt_cmp (op_ne' rfl hr.units) sim_ne (de_v (pv 3)) (ck_prop (c := "GreatNumber") (pureF m_GreatNumber_base_size) rfl (mem_ix 0) (de_v (pv 13)) (T.tab.pr ("GreatNumber", "base_size") (mem_ix 2)) (ok_GreatNumber_base_size T) (hr.mono (by decide)) (.inr rfl) rfl) (nomark _)) (dw_and1 (dt_not (dt_tru rfl (ck_pcall (ok_l_no_order T) dfl_nil (hr.mono (by decide)) (by rfl) (T.gl 24) tk (da_cons (de_ix rfl (de_v (pv 4)) de_int (fun _ _ => rfl)) (da_cons (de_v (pv 13)) (da_cons (de_tup (da_cons (de_v (pv 3)) (da_cons (ck_prop (c := "GreatNumber") (pureF m_GreatNumber_base_size) rfl (mem_ix 0) (de_v (pv 13)) (T.tab.pr ("GreatNumber", "base_size") (mem_ix 2)) (ok_GreatNumber_base_size T) (hr.mono (by decide)) (.inr rfl) rfl) da_nil))) da_nil))))))))) (dss_one (ds_ret de_bl)) dss_nil))))))))
      (dss_one (ds_ret de_bl)))
end
/-! P53a: great numbers, their parts -/
theorem g_is_integer : m_is_integer = gIsInt := rfl
theorem g_pool : m_l_pool = gPool := rfl
theorem g_draw : m_l_draw = gDraw := rfl
abbrev Pc := List Int × Nat
def pcD (p : Pc) : D := .tup [.tup (p.1.map .int), .int p.2]
def gnD (s g : Int) (ps : List Pc) : D := .obj "GreatNumber" [("own_size", .int s), ("own_sign", .int g), ("own_pieces", .tup (ps.map pcD))]
def pcN (p : Pc) : Nat := p.1.length * p.2
def nfig (ps : List Pc) : Nat := (ps.map pcN).sum
structure GoodP (s : Int) (p : Pc) : Prop where
  l1 : 1 ≤ p.1.length
  l2 : p.1.length ≤ 60
  t1 : 1 ≤ p.2
  t2 : p.2 ≤ 10 ^ 30
  fg : ∀ f ∈ p.1, 0 ≤ f ∧ f < s
def topOk (ps : List Pc) : Prop := ∀ p ∈ ps.getLast?, ∀ f ∈ p.1.getLast?, f ≠ 0
structure Good (s : Int) (ps : List Pc) : Prop where
  n : ps.length ≤ 1000
  pc : ∀ p ∈ ps, GoodP s p
  top : topOk ps
theorem strip_gn (s g : Int) (ps : List Pc) : strip (.d (gnD s g ps)) = .d (gnD s g ps) := rfl
theorem strip_pc (p : Pc) : strip (.d (pcD p)) = .d (pcD p) := rfl
theorem size_gn (s g : Int) (ps : List Pc) (st : Sto) : getF "own_size" (.d (gnD s g ps)) st = some (.d (.int s)) := rfl
theorem sign_gn (s g : Int) (ps : List Pc) (st : Sto) : getF "own_sign" (.d (gnD s g ps)) st = some (.d (.int g)) := rfl
theorem pcs_gn (s g : Int) (ps : List Pc) (st : Sto) : getF "own_pieces" (.d (gnD s g ps)) st = some (.d (.tup (ps.map pcD))) := rfl
theorem p_between (i lo hi : Int) (st : Sto) : pureF m_is_between [.d (.int i), .d (.int lo), .d (.int hi)] st = .ok (.d (.bl (decide (lo ≤ i) && decide (i ≤ hi)))) st := by
  refine pureF_d (st1 := []) rfl ?_
  have h := pIsInt (x := .int i) rfl []
  unfold m_is_between
  by_cases q : lo ≤ i
  · simp only [mFun_eq', mSeq_eq, mIfS, mRet, mRetN, mAsg, mPar, mExpr, mSkip, mBrk, mCnt, mBad, mRaise, outE_ok, outT_ok, outE_er, seqO_nx, seqO_rt, seqO_er, retO_rt, retO_nx, retO_er, Res.bind_ok, Res.bind_er, Res.bind_bad, mVar_0, mVar_s, mVarI_0, mVarI_s, strip_ref, strip_non, strip_bl, strip_int, strip_str, strip_lst, strip_tup, strip_obj, strip_lck, strip_idn, mC, mBin, mUn, mTst, mCB, mCons, mNil, mStar, mAnd, mOr, mAndT, mOrT, mNotT, mIf, mTru, truV, mTup, mLst, ds?, ds?_map, mCall, withD, mFld, getF_o, getF_r, oNeg, oNot, oAbs, oMax, oMin, oI1, oI2, oInt, add_ii, sub_ii, lt_ii, le_ii, gt_ii, ge_ii, eq_ii, ne_ii, gN, gT_tup, gL_lst, gsC_cons, gsN_nil, List.map_cons, List.map_nil, List.length_cons, List.length_nil, List.cons_append, List.nil_append, List.append_nil, List.replicate_zero, List.replicate_succ, List.set_cons_zero, List.set_cons_succ, List.zip_cons_cons, List.zip_nil_right, List.foldl_cons, List.foldl_nil, Option.map_some, Option.map_none, Option.bind_some, Nat.reduceAdd, Nat.reduceSub, Nat.reduceEqDiff, Nat.reduceLT, Nat.reduceLeDiff, String.reduceEq, reduceCtorEq, Int.reduceLT, Int.reduceLE, Int.reduceEq, Int.reduceAdd, Int.reduceSub, Int.reduceNeg, Int.reduceMul, String.reduceBEq, decide_true, decide_false, if_true, if_false, ite_true, ite_false, Bool.false_eq_true, Bool.not_true, Bool.not_false, Bool.true_and, Bool.false_and, Bool.and_true, Bool.and_false, Bool.true_or, Bool.false_or, Bool.or_true, Bool.or_false, mChain, g_is_integer, h, isI, q]
  · simp only [mFun_eq', mSeq_eq, mIfS, mRet, mRetN, mAsg, mPar, mExpr, mSkip, mBrk, mCnt, mBad, mRaise, outE_ok, outT_ok, outE_er, seqO_nx, seqO_rt, seqO_er, retO_rt, retO_nx, retO_er, Res.bind_ok, Res.bind_er, Res.bind_bad, mVar_0, mVar_s, mVarI_0, mVarI_s, strip_ref, strip_non, strip_bl, strip_int, strip_str, strip_lst, strip_tup, strip_obj, strip_lck, strip_idn, mC, mBin, mUn, mTst, mCB, mCons, mNil, mStar, mAnd, mOr, mAndT, mOrT, mNotT, mIf, mTru, truV, mTup, mLst, ds?, ds?_map, mCall, withD, mFld, getF_o, getF_r, oNeg, oNot, oAbs, oMax, oMin, oI1, oI2, oInt, add_ii, sub_ii, lt_ii, le_ii, gt_ii, ge_ii, eq_ii, ne_ii, gN, gT_tup, gL_lst, gsC_cons, gsN_nil, List.map_cons, List.map_nil, List.length_cons, List.length_nil, List.cons_append, List.nil_append, List.append_nil, List.replicate_zero, List.replicate_succ, List.set_cons_zero, List.set_cons_succ, List.zip_cons_cons, List.zip_nil_right, List.foldl_cons, List.foldl_nil, Option.map_some, Option.map_none, Option.bind_some, Nat.reduceAdd, Nat.reduceSub, Nat.reduceEqDiff, Nat.reduceLT, Nat.reduceLeDiff, String.reduceEq, reduceCtorEq, Int.reduceLT, Int.reduceLE, Int.reduceEq, Int.reduceAdd, Int.reduceSub, Int.reduceNeg, Int.reduceMul, String.reduceBEq, decide_true, decide_false, if_true, if_false, ite_true, ite_false, Bool.false_eq_true, Bool.not_true, Bool.not_false, Bool.true_and, Bool.false_and, Bool.and_true, Bool.and_false, Bool.true_or, Bool.false_or, Bool.or_true, Bool.or_false, mChain, g_is_integer, h, isI, q]
theorem b_true {i lo hi : Int} (h1 : lo ≤ i) (h2 : i ≤ hi) (st : Sto) : pureF m_is_between [.d (.int i), .d (.int lo), .d (.int hi)] st = .ok (.d (.bl true)) st := by
  rw [p_between, decide_eq_true h1, decide_eq_true h2]; rfl
theorem p_sign {g : Int} (h : g = 1 ∨ g = -1) (st : Sto) : pureF m_is_sign [.d (.int g)] st = .ok (.d (.bl true)) st := by
  refine pureF_d (st1 := []) rfl ?_
  have h0 := pIsInt (x := .int g) rfl []
  have h1 : oIn (.d (.int g)) (.d (.tup [.int (-1), .int 1])) [] = .ok (.d (.bl true)) [] := by
    rcases h with rfl | rfl <;> rfl
  unfold m_is_sign
  simp only [mFun_eq', mSeq_eq, mIfS, mRet, mRetN, mAsg, mPar, mExpr, mSkip, mBrk, mCnt, mBad, mRaise, outE_ok, outT_ok, outE_er, seqO_nx, seqO_rt, seqO_er, retO_rt, retO_nx, retO_er, Res.bind_ok, Res.bind_er, Res.bind_bad, mVar_0, mVar_s, mVarI_0, mVarI_s, strip_ref, strip_non, strip_bl, strip_int, strip_str, strip_lst, strip_tup, strip_obj, strip_lck, strip_idn, mC, mBin, mUn, mTst, mCB, mCons, mNil, mStar, mAnd, mOr, mAndT, mOrT, mNotT, mIf, mTru, truV, mTup, mLst, ds?, ds?_map, mCall, withD, mFld, getF_o, getF_r, oNeg, oNot, oAbs, oMax, oMin, oI1, oI2, oInt, add_ii, sub_ii, lt_ii, le_ii, gt_ii, ge_ii, eq_ii, ne_ii, gN, gT_tup, gL_lst, gsC_cons, gsN_nil, List.map_cons, List.map_nil, List.length_cons, List.length_nil, List.cons_append, List.nil_append, List.append_nil, List.replicate_zero, List.replicate_succ, List.set_cons_zero, List.set_cons_succ, List.zip_cons_cons, List.zip_nil_right, List.foldl_cons, List.foldl_nil, Option.map_some, Option.map_none, Option.bind_some, Nat.reduceAdd, Nat.reduceSub, Nat.reduceEqDiff, Nat.reduceLT, Nat.reduceLeDiff, String.reduceEq, reduceCtorEq, Int.reduceLT, Int.reduceLE, Int.reduceEq, Int.reduceAdd, Int.reduceSub, Int.reduceNeg, Int.reduceMul, String.reduceBEq, decide_true, decide_false, if_true, if_false, ite_true, ite_false, Bool.false_eq_true, Bool.not_true, Bool.not_false, Bool.true_and, Bool.false_and, Bool.and_true, Bool.and_false, Bool.true_or, Bool.false_or, Bool.or_true, Bool.or_false, g_is_integer, h0, isI, cap, h1]
theorem len_tup (xs : List D) (st : Sto) : oLen [.d (.tup xs)] st = .ok (.d (.int xs.length)) st := rfl
theorem len_lst (xs : List D) (st : Sto) : oLen [.d (.lst xs)] st = .ok (.d (.int xs.length)) st := rfl
theorem all_map {α : Type} (l : List α) (p : α → Bool) (st : Sto) : oAll [.d (.lst (l.map fun y => .bl (p y)))] st = .ok (.d (.bl (l.all p))) st := by
  unfold oAll oL1
  simp only [lst?]
  rw [show (l.map fun y => D.bl (p y)) = (l.map p).map D.bl by rw [List.map_map]; rfl, bls?_map]
  simp only [Option.map_some, List.all_map]
  rfl
theorem isi_tup (xs : List D) (st : Sto) : oIsi [.d (.tup xs), .d (.ty "tuple")] st = .ok (.d (.bl true)) st := rfl
theorem p_piece {s : Int} {p : Pc} (h : GoodP s p) (st : Sto) : pureF m_is_piece [.d (pcD p), .d (.int s)] st = .ok (.d (.bl true)) st := by
  refine pureF_d (st1 := []) rfl ?_
  have lc := mLc_map (own := [2]) (mi := mItS (mBin oIx (mVar 0) (mC (.int 0)))) (tg := gN 2) (te := le0_is_piece) (ρ := [some (.d (pcD p)), some (.d (.int s)), none]) (st := []) (st1 := []) p.1 (fun f => Va.d (.int f)) (fun _ => .bl true)
    (by
      rw [itS_tup (xs := p.1.map .int) (st1 := []) (by simp only [mFun_eq', mSeq_eq, mIfS, mRet, mRetN, mAsg, mPar, mExpr, mSkip, mBrk, mCnt, mBad, mRaise, outE_ok, outT_ok, outE_er, seqO_nx, seqO_rt, seqO_er, retO_rt, retO_nx, retO_er, Res.bind_ok, Res.bind_er, Res.bind_bad, mVar_0, mVar_s, mVarI_0, mVarI_s, strip_ref, strip_non, strip_bl, strip_int, strip_str, strip_lst, strip_tup, strip_obj, strip_lck, strip_idn, mC, mBin, mUn, mTst, mCB, mCons, mNil, mStar, mAnd, mOr, mAndT, mOrT, mNotT, mIf, mTru, truV, mTup, mLst, ds?, ds?_map, mCall, withD, mFld, getF_o, getF_r, oNeg, oNot, oAbs, oMax, oMin, oI1, oI2, oInt, add_ii, sub_ii, lt_ii, le_ii, gt_ii, ge_ii, eq_ii, ne_ii, gN, gT_tup, gL_lst, gsC_cons, gsN_nil, List.map_cons, List.map_nil, List.length_cons, List.length_nil, List.cons_append, List.nil_append, List.append_nil, List.replicate_zero, List.replicate_succ, List.set_cons_zero, List.set_cons_succ, List.zip_cons_cons, List.zip_nil_right, List.foldl_cons, List.foldl_nil, Option.map_some, Option.map_none, Option.bind_some, Nat.reduceAdd, Nat.reduceSub, Nat.reduceEqDiff, Nat.reduceLT, Nat.reduceLeDiff, String.reduceEq, reduceCtorEq, Int.reduceLT, Int.reduceLE, Int.reduceEq, Int.reduceAdd, Int.reduceSub, Int.reduceNeg, Int.reduceMul, String.reduceBEq, decide_true, decide_false, if_true, if_false, ite_true, ite_false, Bool.false_eq_true, Bool.not_true, Bool.not_false, Bool.true_and, Bool.false_and, Bool.and_true, Bool.and_false, Bool.true_or, Bool.false_or, Bool.or_true, Bool.or_false, strip_pc]; rfl), List.map_map]
      rfl) (by have := h.l2; show _ ≤ 1000000; omega) fun f hf => by
      refine ⟨[some (.d (pcD p)), some (.d (.int s)), some (.d (.int f))], rfl, ?_⟩
      have := h.fg f hf
      simp only [mFun_eq', mSeq_eq, mIfS, mRet, mRetN, mAsg, mPar, mExpr, mSkip, mBrk, mCnt, mBad, mRaise, outE_ok, outT_ok, outE_er, seqO_nx, seqO_rt, seqO_er, retO_rt, retO_nx, retO_er, Res.bind_ok, Res.bind_er, Res.bind_bad, mVar_0, mVar_s, mVarI_0, mVarI_s, strip_ref, strip_non, strip_bl, strip_int, strip_str, strip_lst, strip_tup, strip_obj, strip_lck, strip_idn, mC, mBin, mUn, mTst, mCB, mCons, mNil, mStar, mAnd, mOr, mAndT, mOrT, mNotT, mIf, mTru, truV, mTup, mLst, ds?, ds?_map, mCall, withD, mFld, getF_o, getF_r, oNeg, oNot, oAbs, oMax, oMin, oI1, oI2, oInt, add_ii, sub_ii, lt_ii, le_ii, gt_ii, ge_ii, eq_ii, ne_ii, gN, gT_tup, gL_lst, gsC_cons, gsN_nil, List.map_cons, List.map_nil, List.length_cons, List.length_nil, List.cons_append, List.nil_append, List.append_nil, List.replicate_zero, List.replicate_succ, List.set_cons_zero, List.set_cons_succ, List.zip_cons_cons, List.zip_nil_right, List.foldl_cons, List.foldl_nil, Option.map_some, Option.map_none, Option.bind_some, Nat.reduceAdd, Nat.reduceSub, Nat.reduceEqDiff, Nat.reduceLT, Nat.reduceLeDiff, String.reduceEq, reduceCtorEq, Int.reduceLT, Int.reduceLE, Int.reduceEq, Int.reduceAdd, Int.reduceSub, Int.reduceNeg, Int.reduceMul, String.reduceBEq, decide_true, decide_false, if_true, if_false, ite_true, ite_false, Bool.false_eq_true, Bool.not_true, Bool.not_false, Bool.true_and, Bool.false_and, Bool.and_true, Bool.and_false, Bool.true_or, Bool.false_or, Bool.or_true, Bool.or_false, le0_is_piece, b_true (i := f) (lo := 0) (hi := s - 1) (by omega) (by omega)]
  have a1 := all_map p.1 (fun _ => true) []
  have ix0 : oIx (.d (pcD p)) (.d (.int 0)) [] = .ok (.d (.tup (p.1.map .int))) [] := rfl
  have ix1 : oIx (.d (pcD p)) (.d (.int 1)) [] = .ok (.d (.int p.2)) [] := rfl
  have t0 : oIsi [.d (pcD p), .d (.ty "tuple")] [] = .ok (.d (.bl true)) [] := rfl
  have l0 : oLen [.d (pcD p)] [] = .ok (.d (.int 2)) [] := rfl
  have l1 : (decide ((1 : Int) ≤ ((p.1.map D.int).length : Nat))) = true := decide_eq_true (by rw [List.length_map]; have := h.l1; omega)
  have l2 : (decide (((p.1.map D.int).length : Int) ≤ 60)) = true := decide_eq_true (by rw [List.length_map]; have := h.l2; omega)
  have al : p.1.all (fun _ => true) = true := by simp
  have bt := b_true (i := (p.2 : Int)) (lo := 1) (hi := 1000000000000000000000000000000) (by have := h.t1; omega) (by have := h.t2; omega)
  unfold m_is_piece
  simp only [mFun_eq', mSeq_eq, mIfS, mRet, mRetN, mAsg, mPar, mExpr, mSkip, mBrk, mCnt, mBad, mRaise, outE_ok, outT_ok, outE_er, seqO_nx, seqO_rt, seqO_er, retO_rt, retO_nx, retO_er, Res.bind_ok, Res.bind_er, Res.bind_bad, mVar_0, mVar_s, mVarI_0, mVarI_s, strip_ref, strip_non, strip_bl, strip_int, strip_str, strip_lst, strip_tup, strip_obj, strip_lck, strip_idn, mC, mBin, mUn, mTst, mCB, mCons, mNil, mStar, mAnd, mOr, mAndT, mOrT, mNotT, mIf, mTru, truV, mTup, mLst, ds?, ds?_map, mCall, withD, mFld, getF_o, getF_r, oNeg, oNot, oAbs, oMax, oMin, oI1, oI2, oInt, add_ii, sub_ii, lt_ii, le_ii, gt_ii, ge_ii, eq_ii, ne_ii, gN, gT_tup, gL_lst, gsC_cons, gsN_nil, List.map_cons, List.map_nil, List.length_cons, List.length_nil, List.cons_append, List.nil_append, List.append_nil, List.replicate_zero, List.replicate_succ, List.set_cons_zero, List.set_cons_succ, List.zip_cons_cons, List.zip_nil_right, List.foldl_cons, List.foldl_nil, Option.map_some, Option.map_none, Option.bind_some, Nat.reduceAdd, Nat.reduceSub, Nat.reduceEqDiff, Nat.reduceLT, Nat.reduceLeDiff, String.reduceEq, reduceCtorEq, Int.reduceLT, Int.reduceLE, Int.reduceEq, Int.reduceAdd, Int.reduceSub, Int.reduceNeg, Int.reduceMul, String.reduceBEq, decide_true, decide_false, if_true, if_false, ite_true, ite_false, Bool.false_eq_true, Bool.not_true, Bool.not_false, Bool.true_and, Bool.false_and, Bool.and_true, Bool.and_false, Bool.true_or, Bool.false_or, Bool.or_true, Bool.or_false, strip_pc, t0, l0, ix0, isi_tup, len_tup, mChain, l1, l2, ix1, bt, lc, a1, al]
theorem atI_last {α : Type} (l : List α) (x : α) (h : l.getLast? = some x) : atI l (-1) = some x := by
  have hne : l ≠ [] := by rintro rfl; cases h
  have hl : 0 < l.length := List.length_pos_iff.mpr hne
  rw [List.getLast?_eq_getElem?] at h
  unfold atI ixN
  rw [if_neg (by decide), if_pos (by omega)]
  show l[(-1 + (l.length : Int)).toNat]? = some x
  rw [show (-1 + (l.length : Int)).toNat = l.length - 1 by omega]
  exact h
theorem p_require {s : Int} {ps : List Pc} (h : Good s ps) (st : Sto) : pureF m_require_pieces [.d (.tup (ps.map pcD)), .d (.int s)] st = .ok (.d .non) st := by
  refine pureF_d (st1 := []) rfl ?_
  have o := mFor_fold (mi := mItE (mCons (mVar 0) mNil)) (tg := gT 2 (gsC (gN 2) (gsC (gN 3) gsN))) (b := lf0_require_pieces) (g := fun (z : Nat × Pc) => Va.d (.tup [.int (z.1 : Nat), pcD z.2]))
    (S := fun (_ : Unit) ρ st => st = [] ∧ ∃ a b, ρ = [some (.d (.tup (ps.map pcD))), some (.d (.int s)), a, b]) (step := fun _ _ => ()) (ps.zipIdx.map fun z => (z.2, z.1)) () (ρ := [some (.d (.tup (ps.map pcD))), some (.d (.int s)), none, none]) (st := []) (st0 := [])
    (by
      simp only [mFun_eq', mSeq_eq, mIfS, mRet, mRetN, mAsg, mPar, mExpr, mSkip, mBrk, mCnt, mBad, mRaise, outE_ok, outT_ok, outE_er, seqO_nx, seqO_rt, seqO_er, retO_rt, retO_nx, retO_er, Res.bind_ok, Res.bind_er, Res.bind_bad, mVar_0, mVar_s, mVarI_0, mVarI_s, strip_ref, strip_non, strip_bl, strip_int, strip_str, strip_lst, strip_tup, strip_obj, strip_lck, strip_idn, mC, mBin, mUn, mTst, mCB, mCons, mNil, mStar, mAnd, mOr, mAndT, mOrT, mNotT, mIf, mTru, truV, mTup, mLst, ds?, ds?_map, mCall, withD, mFld, getF_o, getF_r, oNeg, oNot, oAbs, oMax, oMin, oI1, oI2, oInt, add_ii, sub_ii, lt_ii, le_ii, gt_ii, ge_ii, eq_ii, ne_ii, gN, gT_tup, gL_lst, gsC_cons, gsN_nil, List.map_cons, List.map_nil, List.length_cons, List.length_nil, List.cons_append, List.nil_append, List.append_nil, List.replicate_zero, List.replicate_succ, List.set_cons_zero, List.set_cons_succ, List.zip_cons_cons, List.zip_nil_right, List.foldl_cons, List.foldl_nil, Option.map_some, Option.map_none, Option.bind_some, Nat.reduceAdd, Nat.reduceSub, Nat.reduceEqDiff, Nat.reduceLT, Nat.reduceLeDiff, String.reduceEq, reduceCtorEq, Int.reduceLT, Int.reduceLE, Int.reduceEq, Int.reduceAdd, Int.reduceSub, Int.reduceNeg, Int.reduceMul, String.reduceBEq, decide_true, decide_false, if_true, if_false, ite_true, ite_false, Bool.false_eq_true, Bool.not_true, Bool.not_false, Bool.true_and, Bool.false_and, Bool.and_true, Bool.and_false, Bool.true_or, Bool.false_or, Bool.or_true, Bool.or_false, mItE]
      unfold enumD
      rw [List.zipIdx_map, List.map_map, List.map_map, List.map_map]
      rfl) ⟨rfl, none, none, rfl⟩ fun l1 z l2 e ρ st hs => by
      obtain ⟨rfl, a, b, rfl⟩ := hs
      have hm : z.2 ∈ ps := by
        have : z ∈ ps.zipIdx.map fun z => (z.2, z.1) := by rw [e]; simp
        obtain ⟨w, hw, rfl⟩ := List.mem_map.mp this
        exact List.fst_mem_of_mem_zipIdx hw
      refine ⟨[some (.d (.tup (ps.map pcD))), some (.d (.int s)), some (.d (.int z.1)), some (.d (pcD z.2))], [some (.d (.tup (ps.map pcD))), some (.d (.int s)), some (.d (.int z.1)), some (.d (pcD z.2))], [], rfl, ?_, rfl, _, _, rfl⟩
      simp only [mFun_eq', mSeq_eq, mIfS, mRet, mRetN, mAsg, mPar, mExpr, mSkip, mBrk, mCnt, mBad, mRaise, outE_ok, outT_ok, outE_er, seqO_nx, seqO_rt, seqO_er, retO_rt, retO_nx, retO_er, Res.bind_ok, Res.bind_er, Res.bind_bad, mVar_0, mVar_s, mVarI_0, mVarI_s, strip_ref, strip_non, strip_bl, strip_int, strip_str, strip_lst, strip_tup, strip_obj, strip_lck, strip_idn, mC, mBin, mUn, mTst, mCB, mCons, mNil, mStar, mAnd, mOr, mAndT, mOrT, mNotT, mIf, mTru, truV, mTup, mLst, ds?, ds?_map, mCall, withD, mFld, getF_o, getF_r, oNeg, oNot, oAbs, oMax, oMin, oI1, oI2, oInt, add_ii, sub_ii, lt_ii, le_ii, gt_ii, ge_ii, eq_ii, ne_ii, gN, gT_tup, gL_lst, gsC_cons, gsN_nil, List.map_cons, List.map_nil, List.length_cons, List.length_nil, List.cons_append, List.nil_append, List.append_nil, List.replicate_zero, List.replicate_succ, List.set_cons_zero, List.set_cons_succ, List.zip_cons_cons, List.zip_nil_right, List.foldl_cons, List.foldl_nil, Option.map_some, Option.map_none, Option.bind_some, Nat.reduceAdd, Nat.reduceSub, Nat.reduceEqDiff, Nat.reduceLT, Nat.reduceLeDiff, String.reduceEq, reduceCtorEq, Int.reduceLT, Int.reduceLE, Int.reduceEq, Int.reduceAdd, Int.reduceSub, Int.reduceNeg, Int.reduceMul, String.reduceBEq, decide_true, decide_false, if_true, if_false, ite_true, ite_false, Bool.false_eq_true, Bool.not_true, Bool.not_false, Bool.true_and, Bool.false_and, Bool.and_true, Bool.and_false, Bool.true_or, Bool.false_or, Bool.or_true, Bool.or_false, lf0_require_pieces, strip_pc, p_piece (h.pc z.2 hm)]
  obtain ⟨ρ1, st1, h1, rfl, a, b, rfl⟩ := o
  have l0 : (decide ((0 : Int) < ((ps.map pcD).length : Nat))) = decide (ps ≠ []) := by
    cases ps <;> simp
  unfold m_require_pieces
  by_cases hp : ps = []
  · have d1 : decide (ps ≠ []) = false := decide_eq_false (fun z => z hp)
    simp only [mFun_eq', mSeq_eq, mIfS, mRet, mRetN, mAsg, mPar, mExpr, mSkip, mBrk, mCnt, mBad, mRaise, outE_ok, outT_ok, outE_er, seqO_nx, seqO_rt, seqO_er, retO_rt, retO_nx, retO_er, Res.bind_ok, Res.bind_er, Res.bind_bad, mVar_0, mVar_s, mVarI_0, mVarI_s, strip_ref, strip_non, strip_bl, strip_int, strip_str, strip_lst, strip_tup, strip_obj, strip_lck, strip_idn, mC, mBin, mUn, mTst, mCB, mCons, mNil, mStar, mAnd, mOr, mAndT, mOrT, mNotT, mIf, mTru, truV, mTup, mLst, ds?, ds?_map, mCall, withD, mFld, getF_o, getF_r, oNeg, oNot, oAbs, oMax, oMin, oI1, oI2, oInt, add_ii, sub_ii, lt_ii, le_ii, gt_ii, ge_ii, eq_ii, ne_ii, gN, gT_tup, gL_lst, gsC_cons, gsN_nil, List.map_cons, List.map_nil, List.length_cons, List.length_nil, List.cons_append, List.nil_append, List.append_nil, List.replicate_zero, List.replicate_succ, List.set_cons_zero, List.set_cons_succ, List.zip_cons_cons, List.zip_nil_right, List.foldl_cons, List.foldl_nil, Option.map_some, Option.map_none, Option.bind_some, Nat.reduceAdd, Nat.reduceSub, Nat.reduceEqDiff, Nat.reduceLT, Nat.reduceLeDiff, String.reduceEq, reduceCtorEq, Int.reduceLT, Int.reduceLE, Int.reduceEq, Int.reduceAdd, Int.reduceSub, Int.reduceNeg, Int.reduceMul, String.reduceBEq, decide_true, decide_false, if_true, if_false, ite_true, ite_false, Bool.false_eq_true, Bool.not_true, Bool.not_false, Bool.true_and, Bool.false_and, Bool.and_true, Bool.and_false, Bool.true_or, Bool.false_or, Bool.or_true, Bool.or_false, h1, len_tup, l0, d1]
  · cases hl : ps.getLast? with
    | none => exact absurd (List.getLast?_eq_none_iff.mp hl) hp
    | some p =>
      have pm := List.mem_of_getLast? hl
      have gp := h.pc p pm
      cases hf : p.1.getLast? with
      | none =>
        have := List.getLast?_eq_none_iff.mp hf
        have := gp.l1
        simp_all
      | some f =>
        have hne : f ≠ 0 := h.top p hl f hf
        have i1 : oIx (.d (.tup (ps.map pcD))) (.d (.int (-1))) [] = .ok (.d (pcD p)) [] := ix_tup _ _ _ _ (atI_last _ _ (by rw [List.getLast?_map, hl]; rfl))
        have i2 : oIx (.d (pcD p)) (.d (.int 0)) [] = .ok (.d (.tup (p.1.map .int))) [] := rfl
        have i3 : oIx (.d (.tup (p.1.map .int))) (.d (.int (-1))) [] = .ok (.d (.int f)) [] := ix_tup _ _ _ _ (atI_last _ _ (by rw [List.getLast?_map, hf]; rfl))
        have d1 : decide (ps ≠ []) = true := decide_eq_true hp
        simp only [mFun_eq', mSeq_eq, mIfS, mRet, mRetN, mAsg, mPar, mExpr, mSkip, mBrk, mCnt, mBad, mRaise, outE_ok, outT_ok, outE_er, seqO_nx, seqO_rt, seqO_er, retO_rt, retO_nx, retO_er, Res.bind_ok, Res.bind_er, Res.bind_bad, mVar_0, mVar_s, mVarI_0, mVarI_s, strip_ref, strip_non, strip_bl, strip_int, strip_str, strip_lst, strip_tup, strip_obj, strip_lck, strip_idn, mC, mBin, mUn, mTst, mCB, mCons, mNil, mStar, mAnd, mOr, mAndT, mOrT, mNotT, mIf, mTru, truV, mTup, mLst, ds?, ds?_map, mCall, withD, mFld, getF_o, getF_r, oNeg, oNot, oAbs, oMax, oMin, oI1, oI2, oInt, add_ii, sub_ii, lt_ii, le_ii, gt_ii, ge_ii, eq_ii, ne_ii, gN, gT_tup, gL_lst, gsC_cons, gsN_nil, List.map_cons, List.map_nil, List.length_cons, List.length_nil, List.cons_append, List.nil_append, List.append_nil, List.replicate_zero, List.replicate_succ, List.set_cons_zero, List.set_cons_succ, List.zip_cons_cons, List.zip_nil_right, List.foldl_cons, List.foldl_nil, Option.map_some, Option.map_none, Option.bind_some, Nat.reduceAdd, Nat.reduceSub, Nat.reduceEqDiff, Nat.reduceLT, Nat.reduceLeDiff, String.reduceEq, reduceCtorEq, Int.reduceLT, Int.reduceLE, Int.reduceEq, Int.reduceAdd, Int.reduceSub, Int.reduceNeg, Int.reduceMul, String.reduceBEq, decide_true, decide_false, if_true, if_false, ite_true, ite_false, Bool.false_eq_true, Bool.not_true, Bool.not_false, Bool.true_and, Bool.false_and, Bool.and_true, Bool.and_false, Bool.true_or, Bool.false_or, Bool.or_true, Bool.or_false, h1, len_tup, l0, d1, i1, i2, i3, decide_eq_false hne]
def sgn0 (g : Int) (ps : List Pc) : Int := if ps = [] then 0 else g
theorem p_init {s g : Int} {ps : List Pc} (h : Good s ps) (hs : 2 ≤ s) (hs2 : s ≤ 10) (hg : g = 1 ∨ g = -1) (st : Sto) : makeP "GreatNumber" m_GreatNumber___init__ (.d (.int s) :: .d (.int g) :: (ps.map pcD).map Va.d) st = .ok (.d (gnD s (sgn0 g ps) ps)) st := by
  have e1 : ds? (.d (.int s) :: .d (.int g) :: (ps.map pcD).map Va.d) = some (.int s :: .int g :: ps.map pcD) := by
    rw [show (Va.d (.int s) :: .d (.int g) :: (ps.map pcD).map Va.d) = (D.int s :: .int g :: ps.map pcD).map Va.d from rfl, ds?_map]
  have e2 : m_GreatNumber___init__ (.ref 0 :: .d (.int s) :: .d (.int g) :: (ps.map pcD).map Va.d) [.obj "GreatNumber" []] = .ok (.d .non) [.obj "GreatNumber" [("own_size", .d (.int s)), ("own_sign", .d (.int (sgn0 g ps))), ("own_pieces", .d (.tup (ps.map pcD)))]] := by
    unfold m_GreatNumber___init__ mStarF
    rw [if_pos (by simp)]
    have e3 : ds? ((.ref 0 :: .d (.int s) :: .d (.int g) :: (ps.map pcD).map Va.d).drop 3) = some (ps.map pcD) := by
      rw [show (.ref 0 :: .d (.int s) :: .d (.int g) :: (ps.map pcD).map Va.d).drop 3 = (ps.map pcD).map Va.d from rfl, ds?_map]
    rw [e3]
    dsimp only
    rw [if_pos (by rw [List.length_map]; have := h.n; show _ ≤ 1000000; omega)]
    rw [show (Va.ref 0 :: .d (.int s) :: .d (.int g) :: (ps.map pcD).map Va.d).take 3 ++ [Va.d (.tup (ps.map pcD))] = [.ref 0, .d (.int s), .d (.int g), .d (.tup (ps.map pcD))] from rfl]
    have l0 : (decide ((0 : Int) < ((ps.map pcD).length : Nat))) = decide (ps ≠ []) := by
      cases ps <;> simp
    by_cases hp : ps = []
    · have d1 : decide (ps ≠ []) = false := decide_eq_false (fun z => z hp)
      have d2 : sgn0 g ps = 0 := if_pos hp
      simp only [mFun_eq', mSeq_eq, mIfS, mRet, mRetN, mAsg, mPar, mExpr, mSkip, mBrk, mCnt, mBad, mRaise, outE_ok, outT_ok, outE_er, seqO_nx, seqO_rt, seqO_er, retO_rt, retO_nx, retO_er, Res.bind_ok, Res.bind_er, Res.bind_bad, mVar_0, mVar_s, mVarI_0, mVarI_s, strip_ref, strip_non, strip_bl, strip_int, strip_str, strip_lst, strip_tup, strip_obj, strip_lck, strip_idn, mC, mBin, mUn, mTst, mCB, mCons, mNil, mStar, mAnd, mOr, mAndT, mOrT, mNotT, mIf, mTru, truV, mTup, mLst, ds?, ds?_map, mCall, withD, mFld, getF_o, getF_r, oNeg, oNot, oAbs, oMax, oMin, oI1, oI2, oInt, add_ii, sub_ii, lt_ii, le_ii, gt_ii, ge_ii, eq_ii, ne_ii, gN, gT_tup, gL_lst, gsC_cons, gsN_nil, List.map_cons, List.map_nil, List.length_cons, List.length_nil, List.cons_append, List.nil_append, List.append_nil, List.replicate_zero, List.replicate_succ, List.set_cons_zero, List.set_cons_succ, List.zip_cons_cons, List.zip_nil_right, List.foldl_cons, List.foldl_nil, Option.map_some, Option.map_none, Option.bind_some, Nat.reduceAdd, Nat.reduceSub, Nat.reduceEqDiff, Nat.reduceLT, Nat.reduceLeDiff, String.reduceEq, reduceCtorEq, Int.reduceLT, Int.reduceLE, Int.reduceEq, Int.reduceAdd, Int.reduceSub, Int.reduceNeg, Int.reduceMul, String.reduceBEq, decide_true, decide_false, if_true, if_false, ite_true, ite_false, Bool.false_eq_true, Bool.not_true, Bool.not_false, Bool.true_and, Bool.false_and, Bool.and_true, Bool.and_false, Bool.true_or, Bool.false_or, Bool.or_true, Bool.or_false, b_true hs hs2, p_sign hg, p_require h, mSetF, putS, len_tup, l0, d1, d2, List.getElem?_cons_zero]
    · have d1 : decide (ps ≠ []) = true := decide_eq_true hp
      have d2 : sgn0 g ps = g := if_neg hp
      simp only [mFun_eq', mSeq_eq, mIfS, mRet, mRetN, mAsg, mPar, mExpr, mSkip, mBrk, mCnt, mBad, mRaise, outE_ok, outT_ok, outE_er, seqO_nx, seqO_rt, seqO_er, retO_rt, retO_nx, retO_er, Res.bind_ok, Res.bind_er, Res.bind_bad, mVar_0, mVar_s, mVarI_0, mVarI_s, strip_ref, strip_non, strip_bl, strip_int, strip_str, strip_lst, strip_tup, strip_obj, strip_lck, strip_idn, mC, mBin, mUn, mTst, mCB, mCons, mNil, mStar, mAnd, mOr, mAndT, mOrT, mNotT, mIf, mTru, truV, mTup, mLst, ds?, ds?_map, mCall, withD, mFld, getF_o, getF_r, oNeg, oNot, oAbs, oMax, oMin, oI1, oI2, oInt, add_ii, sub_ii, lt_ii, le_ii, gt_ii, ge_ii, eq_ii, ne_ii, gN, gT_tup, gL_lst, gsC_cons, gsN_nil, List.map_cons, List.map_nil, List.length_cons, List.length_nil, List.cons_append, List.nil_append, List.append_nil, List.replicate_zero, List.replicate_succ, List.set_cons_zero, List.set_cons_succ, List.zip_cons_cons, List.zip_nil_right, List.foldl_cons, List.foldl_nil, Option.map_some, Option.map_none, Option.bind_some, Nat.reduceAdd, Nat.reduceSub, Nat.reduceEqDiff, Nat.reduceLT, Nat.reduceLeDiff, String.reduceEq, reduceCtorEq, Int.reduceLT, Int.reduceLE, Int.reduceEq, Int.reduceAdd, Int.reduceSub, Int.reduceNeg, Int.reduceMul, String.reduceBEq, decide_true, decide_false, if_true, if_false, ite_true, ite_false, Bool.false_eq_true, Bool.not_true, Bool.not_false, Bool.true_and, Bool.false_and, Bool.and_true, Bool.and_false, Bool.true_or, Bool.false_or, Bool.or_true, Bool.or_false, b_true hs hs2, p_sign hg, p_require h, mSetF, putS, len_tup, l0, d1, d2, List.getElem?_cons_zero]
  unfold makeP
  rw [e1]
  dsimp only
  rw [e2]
  rfl

/-! P53b: methods of great numbers -/
def gnF (s g : Int) (ps : List Pc) : List (String × Va) := [("own_size", .d (.int s)), ("own_sign", .d (.int g)), ("own_pieces", .d (.tup (ps.map pcD)))]
theorem obj_gn (s g : Int) (ps : List Pc) (st : Sto) : objOf (.d (gnD s g ps)) st = some ("GreatNumber", gnF s g ps) := rfl
theorem lk_signed (s g : Int) (ps : List Pc) : List.lookup "signed" (gnF s g ps) = none := rfl
theorem lk_pieces (s g : Int) (ps : List Pc) : List.lookup "pieces" (gnF s g ps) = none := rfl
theorem lk_order (s g : Int) (ps : List Pc) : List.lookup "order" (gnF s g ps) = none := rfl
theorem lk_remainder (s g : Int) (ps : List Pc) : List.lookup "remainder" (gnF s g ps) = none := rfl
theorem lk_plain (s g : Int) (ps : List Pc) : List.lookup "plain" (gnF s g ps) = none := rfl
theorem p_size (s g : Int) (ps : List Pc) (st : Sto) : pureF m_GreatNumber_base_size [.d (gnD s g ps)] st = .ok (.d (.int s)) st := by
  refine pureF_d (st1 := []) rfl ?_
  unfold m_GreatNumber_base_size
  simp only [mFun_eq', mSeq_eq, mIfS, mRet, mRetN, mAsg, mPar, mExpr, mSkip, mBrk, mCnt, mBad, mRaise, outE_ok, outT_ok, outE_er, seqO_nx, seqO_rt, seqO_er, retO_rt, retO_nx, retO_er, Res.bind_ok, Res.bind_er, Res.bind_bad, mVar_0, mVar_s, mVarI_0, mVarI_s, strip_ref, strip_non, strip_bl, strip_int, strip_str, strip_lst, strip_tup, strip_obj, strip_lck, strip_idn, mC, mBin, mUn, mTst, mCB, mCons, mNil, mStar, mAnd, mOr, mAndT, mOrT, mNotT, mIf, mTru, truV, mTup, mLst, ds?, ds?_map, mCall, withD, mFld, getF_o, getF_r, oNeg, oNot, oAbs, oMax, oMin, oI1, oI2, oInt, add_ii, sub_ii, lt_ii, le_ii, gt_ii, ge_ii, eq_ii, ne_ii, gN, gT_tup, gL_lst, gsC_cons, gsN_nil, List.map_cons, List.map_nil, List.length_cons, List.length_nil, List.cons_append, List.nil_append, List.append_nil, List.replicate_zero, List.replicate_succ, List.set_cons_zero, List.set_cons_succ, List.zip_cons_cons, List.zip_nil_right, List.foldl_cons, List.foldl_nil, Option.map_some, Option.map_none, Option.bind_some, Nat.reduceAdd, Nat.reduceSub, Nat.reduceEqDiff, Nat.reduceLT, Nat.reduceLeDiff, String.reduceEq, reduceCtorEq, Int.reduceLT, Int.reduceLE, Int.reduceEq, Int.reduceAdd, Int.reduceSub, Int.reduceNeg, Int.reduceMul, String.reduceBEq, decide_true, decide_false, if_true, if_false, ite_true, ite_false, Bool.false_eq_true, Bool.not_true, Bool.not_false, Bool.true_and, Bool.false_and, Bool.and_true, Bool.and_false, Bool.true_or, Bool.false_or, Bool.or_true, Bool.or_false, strip_gn, size_gn]
theorem p_nsign (s g : Int) (ps : List Pc) (st : Sto) : pureF m_GreatNumber_number_sign [.d (gnD s g ps)] st = .ok (.d (.int g)) st := by
  refine pureF_d (st1 := []) rfl ?_
  unfold m_GreatNumber_number_sign
  simp only [mFun_eq', mSeq_eq, mIfS, mRet, mRetN, mAsg, mPar, mExpr, mSkip, mBrk, mCnt, mBad, mRaise, outE_ok, outT_ok, outE_er, seqO_nx, seqO_rt, seqO_er, retO_rt, retO_nx, retO_er, Res.bind_ok, Res.bind_er, Res.bind_bad, mVar_0, mVar_s, mVarI_0, mVarI_s, strip_ref, strip_non, strip_bl, strip_int, strip_str, strip_lst, strip_tup, strip_obj, strip_lck, strip_idn, mC, mBin, mUn, mTst, mCB, mCons, mNil, mStar, mAnd, mOr, mAndT, mOrT, mNotT, mIf, mTru, truV, mTup, mLst, ds?, ds?_map, mCall, withD, mFld, getF_o, getF_r, oNeg, oNot, oAbs, oMax, oMin, oI1, oI2, oInt, add_ii, sub_ii, lt_ii, le_ii, gt_ii, ge_ii, eq_ii, ne_ii, gN, gT_tup, gL_lst, gsC_cons, gsN_nil, List.map_cons, List.map_nil, List.length_cons, List.length_nil, List.cons_append, List.nil_append, List.append_nil, List.replicate_zero, List.replicate_succ, List.set_cons_zero, List.set_cons_succ, List.zip_cons_cons, List.zip_nil_right, List.foldl_cons, List.foldl_nil, Option.map_some, Option.map_none, Option.bind_some, Nat.reduceAdd, Nat.reduceSub, Nat.reduceEqDiff, Nat.reduceLT, Nat.reduceLeDiff, String.reduceEq, reduceCtorEq, Int.reduceLT, Int.reduceLE, Int.reduceEq, Int.reduceAdd, Int.reduceSub, Int.reduceNeg, Int.reduceMul, String.reduceBEq, decide_true, decide_false, if_true, if_false, ite_true, ite_false, Bool.false_eq_true, Bool.not_true, Bool.not_false, Bool.true_and, Bool.false_and, Bool.and_true, Bool.and_false, Bool.true_or, Bool.false_or, Bool.or_true, Bool.or_false, strip_gn, sign_gn]
theorem p_pieces {s g : Int} {ps : List Pc} (st : Sto) : pureF m_GreatNumber_pieces [.d (gnD s g ps)] st = .ok (.d (.lst (ps.map pcD))) st := by
  refine pureF_d (st1 := []) rfl ?_
  have h : oList [.d (.tup (ps.map pcD))] [] = .ok (.d (.lst (ps.map pcD))) [] := by
    unfold oList itemsOf
    simp only [ds?_map]
  unfold m_GreatNumber_pieces
  simp only [mFun_eq', mSeq_eq, mIfS, mRet, mRetN, mAsg, mPar, mExpr, mSkip, mBrk, mCnt, mBad, mRaise, outE_ok, outT_ok, outE_er, seqO_nx, seqO_rt, seqO_er, retO_rt, retO_nx, retO_er, Res.bind_ok, Res.bind_er, Res.bind_bad, mVar_0, mVar_s, mVarI_0, mVarI_s, strip_ref, strip_non, strip_bl, strip_int, strip_str, strip_lst, strip_tup, strip_obj, strip_lck, strip_idn, mC, mBin, mUn, mTst, mCB, mCons, mNil, mStar, mAnd, mOr, mAndT, mOrT, mNotT, mIf, mTru, truV, mTup, mLst, ds?, ds?_map, mCall, withD, mFld, getF_o, getF_r, oNeg, oNot, oAbs, oMax, oMin, oI1, oI2, oInt, add_ii, sub_ii, lt_ii, le_ii, gt_ii, ge_ii, eq_ii, ne_ii, gN, gT_tup, gL_lst, gsC_cons, gsN_nil, List.map_cons, List.map_nil, List.length_cons, List.length_nil, List.cons_append, List.nil_append, List.append_nil, List.replicate_zero, List.replicate_succ, List.set_cons_zero, List.set_cons_succ, List.zip_cons_cons, List.zip_nil_right, List.foldl_cons, List.foldl_nil, Option.map_some, Option.map_none, Option.bind_some, Nat.reduceAdd, Nat.reduceSub, Nat.reduceEqDiff, Nat.reduceLT, Nat.reduceLeDiff, String.reduceEq, reduceCtorEq, Int.reduceLT, Int.reduceLE, Int.reduceEq, Int.reduceAdd, Int.reduceSub, Int.reduceNeg, Int.reduceMul, String.reduceBEq, decide_true, decide_false, if_true, if_false, ite_true, ite_false, Bool.false_eq_true, Bool.not_true, Bool.not_false, Bool.true_and, Bool.false_and, Bool.and_true, Bool.and_false, Bool.true_or, Bool.false_or, Bool.or_true, Bool.or_false, strip_gn, pcs_gn, h]
theorem pc_mul {s : Int} {p : Pc} (h : GoodP s p) : CMulW (p.1.length : Int) (p.2 : Int) := by
  have h1 : Bd 10 (p.1.length : Int) := by unfold Bd; have := h.l2; omega
  have h2 : Bd 100 (p.2 : Int) := by unfold Bd; have := h.t2; omega
  exact h1.cmul h2 (by decide)
theorem nfig_int (ps : List Pc) : (ps.map fun p => (p.1.length : Int) * (p.2 : Int)).sum = ((nfig ps : Nat) : Int) := by
  induction ps with
  | nil => rfl
  | cons p ps ih =>
    unfold nfig at *
    rw [List.map_cons, List.sum_cons, ih, List.map_cons, List.sum_cons]
    unfold pcN
    rw [Int.natCast_add, Int.natCast_mul]
theorem p_figures {s g : Int} {ps : List Pc} (h : ∀ p ∈ ps, GoodP s p) (hn : ps.length ≤ 1000) (st : Sto) : pureF m_GreatNumber_figures [.d (gnD s g ps)] st = .ok (.d (.int (nfig ps : Nat))) st := by
  refine pureF_d (st1 := []) rfl ?_
  have lc := mLc_map (own := [1, 2]) (mi := mItS (mFld "own_pieces" (mVar 0))) (tg := gT 2 (gsC (gN 1) (gsC (gN 2) gsN))) (te := le0_GreatNumber_figures) (ρ := [some (.d (gnD s g ps)), none, none]) (st := []) (st1 := []) ps (fun p => Va.d (pcD p)) (fun p => .int ((p.1.length : Int) * (p.2 : Int)))
    (by rw [itS_tup (xs := ps.map pcD) (st1 := []) (by simp only [mFun_eq', mSeq_eq, mIfS, mRet, mRetN, mAsg, mPar, mExpr, mSkip, mBrk, mCnt, mBad, mRaise, outE_ok, outT_ok, outE_er, seqO_nx, seqO_rt, seqO_er, retO_rt, retO_nx, retO_er, Res.bind_ok, Res.bind_er, Res.bind_bad, mVar_0, mVar_s, mVarI_0, mVarI_s, strip_ref, strip_non, strip_bl, strip_int, strip_str, strip_lst, strip_tup, strip_obj, strip_lck, strip_idn, mC, mBin, mUn, mTst, mCB, mCons, mNil, mStar, mAnd, mOr, mAndT, mOrT, mNotT, mIf, mTru, truV, mTup, mLst, ds?, ds?_map, mCall, withD, mFld, getF_o, getF_r, oNeg, oNot, oAbs, oMax, oMin, oI1, oI2, oInt, add_ii, sub_ii, lt_ii, le_ii, gt_ii, ge_ii, eq_ii, ne_ii, gN, gT_tup, gL_lst, gsC_cons, gsN_nil, List.map_cons, List.map_nil, List.length_cons, List.length_nil, List.cons_append, List.nil_append, List.append_nil, List.replicate_zero, List.replicate_succ, List.set_cons_zero, List.set_cons_succ, List.zip_cons_cons, List.zip_nil_right, List.foldl_cons, List.foldl_nil, Option.map_some, Option.map_none, Option.bind_some, Nat.reduceAdd, Nat.reduceSub, Nat.reduceEqDiff, Nat.reduceLT, Nat.reduceLeDiff, String.reduceEq, reduceCtorEq, Int.reduceLT, Int.reduceLE, Int.reduceEq, Int.reduceAdd, Int.reduceSub, Int.reduceNeg, Int.reduceMul, String.reduceBEq, decide_true, decide_false, if_true, if_false, ite_true, ite_false, Bool.false_eq_true, Bool.not_true, Bool.not_false, Bool.true_and, Bool.false_and, Bool.and_true, Bool.and_false, Bool.true_or, Bool.false_or, Bool.or_true, Bool.or_false, strip_gn, pcs_gn]), List.map_map]; rfl) (by show _ ≤ 1000000; omega) fun p hp => by
      refine ⟨[some (.d (gnD s g ps)), some (.d (.tup (p.1.map .int))), some (.d (.int p.2))], rfl, ?_⟩
      have m := mul_ok (i := (p.1.length : Int)) (j := (p.2 : Int)) [] (pc_mul (h p hp))
      simp only [mFun_eq', mSeq_eq, mIfS, mRet, mRetN, mAsg, mPar, mExpr, mSkip, mBrk, mCnt, mBad, mRaise, outE_ok, outT_ok, outE_er, seqO_nx, seqO_rt, seqO_er, retO_rt, retO_nx, retO_er, Res.bind_ok, Res.bind_er, Res.bind_bad, mVar_0, mVar_s, mVarI_0, mVarI_s, strip_ref, strip_non, strip_bl, strip_int, strip_str, strip_lst, strip_tup, strip_obj, strip_lck, strip_idn, mC, mBin, mUn, mTst, mCB, mCons, mNil, mStar, mAnd, mOr, mAndT, mOrT, mNotT, mIf, mTru, truV, mTup, mLst, ds?, ds?_map, mCall, withD, mFld, getF_o, getF_r, oNeg, oNot, oAbs, oMax, oMin, oI1, oI2, oInt, add_ii, sub_ii, lt_ii, le_ii, gt_ii, ge_ii, eq_ii, ne_ii, gN, gT_tup, gL_lst, gsC_cons, gsN_nil, List.map_cons, List.map_nil, List.length_cons, List.length_nil, List.cons_append, List.nil_append, List.append_nil, List.replicate_zero, List.replicate_succ, List.set_cons_zero, List.set_cons_succ, List.zip_cons_cons, List.zip_nil_right, List.foldl_cons, List.foldl_nil, Option.map_some, Option.map_none, Option.bind_some, Nat.reduceAdd, Nat.reduceSub, Nat.reduceEqDiff, Nat.reduceLT, Nat.reduceLeDiff, String.reduceEq, reduceCtorEq, Int.reduceLT, Int.reduceLE, Int.reduceEq, Int.reduceAdd, Int.reduceSub, Int.reduceNeg, Int.reduceMul, String.reduceBEq, decide_true, decide_false, if_true, if_false, ite_true, ite_false, Bool.false_eq_true, Bool.not_true, Bool.not_false, Bool.true_and, Bool.false_and, Bool.and_true, Bool.and_false, Bool.true_or, Bool.false_or, Bool.or_true, Bool.or_false, le0_GreatNumber_figures, len_tup, List.length_map, m]
  have sm := sum_ints ps (fun p => (p.1.length : Int) * (p.2 : Int)) []
  rw [nfig_int] at sm
  unfold m_GreatNumber_figures
  simp only [mFun_eq', mSeq_eq, mIfS, mRet, mRetN, mAsg, mPar, mExpr, mSkip, mBrk, mCnt, mBad, mRaise, outE_ok, outT_ok, outE_er, seqO_nx, seqO_rt, seqO_er, retO_rt, retO_nx, retO_er, Res.bind_ok, Res.bind_er, Res.bind_bad, mVar_0, mVar_s, mVarI_0, mVarI_s, strip_ref, strip_non, strip_bl, strip_int, strip_str, strip_lst, strip_tup, strip_obj, strip_lck, strip_idn, mC, mBin, mUn, mTst, mCB, mCons, mNil, mStar, mAnd, mOr, mAndT, mOrT, mNotT, mIf, mTru, truV, mTup, mLst, ds?, ds?_map, mCall, withD, mFld, getF_o, getF_r, oNeg, oNot, oAbs, oMax, oMin, oI1, oI2, oInt, add_ii, sub_ii, lt_ii, le_ii, gt_ii, ge_ii, eq_ii, ne_ii, gN, gT_tup, gL_lst, gsC_cons, gsN_nil, List.map_cons, List.map_nil, List.length_cons, List.length_nil, List.cons_append, List.nil_append, List.append_nil, List.replicate_zero, List.replicate_succ, List.set_cons_zero, List.set_cons_succ, List.zip_cons_cons, List.zip_nil_right, List.foldl_cons, List.foldl_nil, Option.map_some, Option.map_none, Option.bind_some, Nat.reduceAdd, Nat.reduceSub, Nat.reduceEqDiff, Nat.reduceLT, Nat.reduceLeDiff, String.reduceEq, reduceCtorEq, Int.reduceLT, Int.reduceLE, Int.reduceEq, Int.reduceAdd, Int.reduceSub, Int.reduceNeg, Int.reduceMul, String.reduceBEq, decide_true, decide_false, if_true, if_false, ite_true, ite_false, Bool.false_eq_true, Bool.not_true, Bool.not_false, Bool.true_and, Bool.false_and, Bool.and_true, Bool.and_false, Bool.true_or, Bool.false_or, Bool.or_true, Bool.or_false, lc, sm]
/-- the figure at a place, from the lowest -/
def figAt : List Pc → Nat → Int
  | [], _ => 0
  | p :: ps, i => if i < pcN p then p.1.getD (i % p.1.length) 0 else figAt ps (i - pcN p)
theorem atI_nat {α : Type} (l : List α) (i : Nat) (x : α) (h : l[i]? = some x) : atI l (i : Int) = some x := by
  have hi : i < l.length := (List.getElem?_eq_some_iff.mp h).1
  unfold atI ixN
  rw [if_pos (by omega), if_pos (by omega)]
  exact h
theorem fmod_nat (a b : Nat) : ((a : Int).fmod (b : Int)) = ((a % b : Nat) : Int) := by
  rw [Int.fmod_eq_emod_of_nonneg _ (by omega)]; rfl
theorem p_getitem_aux {s g : Int} {ps0 : List Pc} {x : Nat} : ∀ {ps : List Pc} {beg : Nat} {a b : Option Va}, (∀ p ∈ ps, GoodP s p) → beg ≤ x → x < beg + nfig ps →
    ∃ st1, forM none (gT 2 (gsC (gN 3) (gsC (gN 4) gsN))) lf0_GreatNumber___getitem__ (ps.map fun p => Va.d (pcD p)) [some (.d (gnD s g ps0)), some (.d (.int x)), some (.d (.int beg)), a, b] [] = .rt (.d (.int (figAt ps (x - beg)))) st1
  | [], beg, a, b, _, h1, h2 => by simp [nfig] at h2; omega
  | p :: ps, beg, a, b, h, h1, h2 => by
    have gp := h p (List.mem_cons_self ..)
    have hN : 0 < pcN p := Nat.mul_pos gp.l1 gp.t1
    have m := mul_ok (i := (p.1.length : Int)) (j := (p.2 : Int)) [] (pc_mul gp)
    have e1 : (p.1.length : Int) * (p.2 : Int) = ((pcN p : Nat) : Int) := by unfold pcN; rw [Int.natCast_mul]
    have tg : gT 2 (gsC (gN 3) (gsC (gN 4) gsN)) (.d (pcD p)) [some (.d (gnD s g ps0)), some (.d (.int x)), some (.d (.int beg)), a, b] = some [some (.d (gnD s g ps0)), some (.d (.int x)), some (.d (.int beg)), some (.d (.tup (p.1.map .int))), some (.d (.int p.2))] := rfl
    rw [List.map_cons, forM_cons', tg]
    dsimp only
    by_cases q : x < beg + pcN p
    · have md := mod_ok (i := (x : Int) - (beg : Int)) (j := (p.1.length : Int)) [] (by have := gp.l1; omega)
      have hk : (x - beg) % p.1.length < p.1.length := Nat.mod_lt _ gp.l1
      have ix : oIx (.d (.tup (p.1.map .int))) (.d (.int (((x - beg) % p.1.length : Nat) : Int))) [] = .ok (.d (.int (p.1.getD ((x - beg) % p.1.length) 0))) [] := ix_tup _ _ _ _ (atI_nat _ _ _ (by rw [List.getElem?_map, List.getElem?_eq_getElem hk, List.getD_eq_getElem?_getD, List.getElem?_eq_getElem hk]; rfl))
      have e2 : ((x : Int) - (beg : Int)).fmod (p.1.length : Int) = (((x - beg) % p.1.length : Nat) : Int) := by rw [show (x : Int) - (beg : Int) = ((x - beg : Nat) : Int) by omega, fmod_nat]
      rw [e2] at md
      have dq : decide ((x : Int) < (beg : Int) + (pcN p : Nat)) = true := decide_eq_true (by omega)
      have e3 : figAt (p :: ps) (x - beg) = p.1.getD ((x - beg) % p.1.length) 0 := if_pos (by omega)
      refine ⟨[], ?_⟩
      simp only [mFun_eq', mSeq_eq, mIfS, mRet, mRetN, mAsg, mPar, mExpr, mSkip, mBrk, mCnt, mBad, mRaise, outE_ok, outT_ok, outE_er, seqO_nx, seqO_rt, seqO_er, retO_rt, retO_nx, retO_er, Res.bind_ok, Res.bind_er, Res.bind_bad, mVar_0, mVar_s, mVarI_0, mVarI_s, strip_ref, strip_non, strip_bl, strip_int, strip_str, strip_lst, strip_tup, strip_obj, strip_lck, strip_idn, mC, mBin, mUn, mTst, mCB, mCons, mNil, mStar, mAnd, mOr, mAndT, mOrT, mNotT, mIf, mTru, truV, mTup, mLst, ds?, ds?_map, mCall, withD, mFld, getF_o, getF_r, oNeg, oNot, oAbs, oMax, oMin, oI1, oI2, oInt, add_ii, sub_ii, lt_ii, le_ii, gt_ii, ge_ii, eq_ii, ne_ii, gN, gT_tup, gL_lst, gsC_cons, gsN_nil, List.map_cons, List.map_nil, List.length_cons, List.length_nil, List.cons_append, List.nil_append, List.append_nil, List.replicate_zero, List.replicate_succ, List.set_cons_zero, List.set_cons_succ, List.zip_cons_cons, List.zip_nil_right, List.foldl_cons, List.foldl_nil, Option.map_some, Option.map_none, Option.bind_some, Nat.reduceAdd, Nat.reduceSub, Nat.reduceEqDiff, Nat.reduceLT, Nat.reduceLeDiff, String.reduceEq, reduceCtorEq, Int.reduceLT, Int.reduceLE, Int.reduceEq, Int.reduceAdd, Int.reduceSub, Int.reduceNeg, Int.reduceMul, String.reduceBEq, decide_true, decide_false, if_true, if_false, ite_true, ite_false, Bool.false_eq_true, Bool.not_true, Bool.not_false, Bool.true_and, Bool.false_and, Bool.and_true, Bool.and_false, Bool.true_or, Bool.false_or, Bool.or_true, Bool.or_false, lf0_GreatNumber___getitem__, len_tup, List.length_map, m, e1, dq, md, ix, loopO_rt, e3]
    · have dq : decide ((x : Int) < (beg : Int) + (pcN p : Nat)) = false := decide_eq_false (by omega)
      have h2' : x < (beg + pcN p) + nfig ps := by unfold nfig at h2 ⊢; rw [List.map_cons, List.sum_cons] at h2; omega
      obtain ⟨st1, ih⟩ := p_getitem_aux (ps := ps) (beg := beg + pcN p) (a := some (.d (.tup (p.1.map .int)))) (b := some (.d (.int p.2))) (fun z hz => h z (List.mem_cons_of_mem _ hz)) (by omega) h2'
      have e3 : figAt (p :: ps) (x - beg) = figAt ps (x - (beg + pcN p)) := by
        rw [show x - (beg + pcN p) = x - beg - pcN p by omega]
        exact if_neg (by omega)
      rw [Int.natCast_add] at ih
      refine ⟨st1, ?_⟩
      rw [e3]
      simp only [mFun_eq', mSeq_eq, mIfS, mRet, mRetN, mAsg, mPar, mExpr, mSkip, mBrk, mCnt, mBad, mRaise, outE_ok, outT_ok, outE_er, seqO_nx, seqO_rt, seqO_er, retO_rt, retO_nx, retO_er, Res.bind_ok, Res.bind_er, Res.bind_bad, mVar_0, mVar_s, mVarI_0, mVarI_s, strip_ref, strip_non, strip_bl, strip_int, strip_str, strip_lst, strip_tup, strip_obj, strip_lck, strip_idn, mC, mBin, mUn, mTst, mCB, mCons, mNil, mStar, mAnd, mOr, mAndT, mOrT, mNotT, mIf, mTru, truV, mTup, mLst, ds?, ds?_map, mCall, withD, mFld, getF_o, getF_r, oNeg, oNot, oAbs, oMax, oMin, oI1, oI2, oInt, add_ii, sub_ii, lt_ii, le_ii, gt_ii, ge_ii, eq_ii, ne_ii, gN, gT_tup, gL_lst, gsC_cons, gsN_nil, List.map_cons, List.map_nil, List.length_cons, List.length_nil, List.cons_append, List.nil_append, List.append_nil, List.replicate_zero, List.replicate_succ, List.set_cons_zero, List.set_cons_succ, List.zip_cons_cons, List.zip_nil_right, List.foldl_cons, List.foldl_nil, Option.map_some, Option.map_none, Option.bind_some, Nat.reduceAdd, Nat.reduceSub, Nat.reduceEqDiff, Nat.reduceLT, Nat.reduceLeDiff, String.reduceEq, reduceCtorEq, Int.reduceLT, Int.reduceLE, Int.reduceEq, Int.reduceAdd, Int.reduceSub, Int.reduceNeg, Int.reduceMul, String.reduceBEq, decide_true, decide_false, if_true, if_false, ite_true, ite_false, Bool.false_eq_true, Bool.not_true, Bool.not_false, Bool.true_and, Bool.false_and, Bool.and_true, Bool.and_false, Bool.true_or, Bool.false_or, Bool.or_true, Bool.or_false, lf0_GreatNumber___getitem__, len_tup, List.length_map, m, e1, dq, loopO_nx]
      exact ih
theorem p_getitem {s g : Int} {ps : List Pc} {x : Nat} (h : ∀ p ∈ ps, GoodP s p) (hn : ps.length ≤ 1000) (hx : x < nfig ps) (st : Sto) : pureF m_GreatNumber___getitem__ [.d (gnD s g ps), .d (.int x)] st = .ok (.d (.int (figAt ps x))) st := by
  obtain ⟨st1, e⟩ := p_getitem_aux (s := s) (g := g) (ps0 := ps) (x := x) (ps := ps) (beg := 0) (a := none) (b := none) h (Nat.zero_le _) (by omega)
  refine pureF_d (st1 := st1) rfl ?_
  have f := p_figures (g := g) h hn []
  have bt := b_true (i := (x : Int)) (lo := 0) (hi := (nfig ps : Nat) - 1) (by omega) (by omega)
  have it : mItS (mFld "own_pieces" (mVar 0)) [some (.d (gnD s g ps)), some (.d (.int x)), some (.d (.int 0)), none, none] [] = .ok ⟨ps.map fun p => Va.d (pcD p), none⟩ [] := by
    rw [itS_tup (xs := ps.map pcD) (st1 := []) (by simp only [mFun_eq', mSeq_eq, mIfS, mRet, mRetN, mAsg, mPar, mExpr, mSkip, mBrk, mCnt, mBad, mRaise, outE_ok, outT_ok, outE_er, seqO_nx, seqO_rt, seqO_er, retO_rt, retO_nx, retO_er, Res.bind_ok, Res.bind_er, Res.bind_bad, mVar_0, mVar_s, mVarI_0, mVarI_s, strip_ref, strip_non, strip_bl, strip_int, strip_str, strip_lst, strip_tup, strip_obj, strip_lck, strip_idn, mC, mBin, mUn, mTst, mCB, mCons, mNil, mStar, mAnd, mOr, mAndT, mOrT, mNotT, mIf, mTru, truV, mTup, mLst, ds?, ds?_map, mCall, withD, mFld, getF_o, getF_r, oNeg, oNot, oAbs, oMax, oMin, oI1, oI2, oInt, add_ii, sub_ii, lt_ii, le_ii, gt_ii, ge_ii, eq_ii, ne_ii, gN, gT_tup, gL_lst, gsC_cons, gsN_nil, List.map_cons, List.map_nil, List.length_cons, List.length_nil, List.cons_append, List.nil_append, List.append_nil, List.replicate_zero, List.replicate_succ, List.set_cons_zero, List.set_cons_succ, List.zip_cons_cons, List.zip_nil_right, List.foldl_cons, List.foldl_nil, Option.map_some, Option.map_none, Option.bind_some, Nat.reduceAdd, Nat.reduceSub, Nat.reduceEqDiff, Nat.reduceLT, Nat.reduceLeDiff, String.reduceEq, reduceCtorEq, Int.reduceLT, Int.reduceLE, Int.reduceEq, Int.reduceAdd, Int.reduceSub, Int.reduceNeg, Int.reduceMul, String.reduceBEq, decide_true, decide_false, if_true, if_false, ite_true, ite_false, Bool.false_eq_true, Bool.not_true, Bool.not_false, Bool.true_and, Bool.false_and, Bool.and_true, Bool.and_false, Bool.true_or, Bool.false_or, Bool.or_true, Bool.or_false, strip_gn, pcs_gn]), List.map_map]; rfl
  have fe := mFor_eq (tg := gT 2 (gsC (gN 3) (gsC (gN 4) gsN))) (b := lf0_GreatNumber___getitem__) it
  rw [Nat.sub_zero] at e
  unfold m_GreatNumber___getitem__
  simp only [mFun_eq', mSeq_eq, mIfS, mRet, mRetN, mAsg, mPar, mExpr, mSkip, mBrk, mCnt, mBad, mRaise, outE_ok, outT_ok, outE_er, seqO_nx, seqO_rt, seqO_er, retO_rt, retO_nx, retO_er, Res.bind_ok, Res.bind_er, Res.bind_bad, mVar_0, mVar_s, mVarI_0, mVarI_s, strip_ref, strip_non, strip_bl, strip_int, strip_str, strip_lst, strip_tup, strip_obj, strip_lck, strip_idn, mC, mBin, mUn, mTst, mCB, mCons, mNil, mStar, mAnd, mOr, mAndT, mOrT, mNotT, mIf, mTru, truV, mTup, mLst, ds?, ds?_map, mCall, withD, mFld, getF_o, getF_r, oNeg, oNot, oAbs, oMax, oMin, oI1, oI2, oInt, add_ii, sub_ii, lt_ii, le_ii, gt_ii, ge_ii, eq_ii, ne_ii, gN, gT_tup, gL_lst, gsC_cons, gsN_nil, List.map_cons, List.map_nil, List.length_cons, List.length_nil, List.cons_append, List.nil_append, List.append_nil, List.replicate_zero, List.replicate_succ, List.set_cons_zero, List.set_cons_succ, List.zip_cons_cons, List.zip_nil_right, List.foldl_cons, List.foldl_nil, Option.map_some, Option.map_none, Option.bind_some, Nat.reduceAdd, Nat.reduceSub, Nat.reduceEqDiff, Nat.reduceLT, Nat.reduceLeDiff, String.reduceEq, reduceCtorEq, Int.reduceLT, Int.reduceLE, Int.reduceEq, Int.reduceAdd, Int.reduceSub, Int.reduceNeg, Int.reduceMul, String.reduceBEq, decide_true, decide_false, if_true, if_false, ite_true, ite_false, Bool.false_eq_true, Bool.not_true, Bool.not_false, Bool.true_and, Bool.false_and, Bool.and_true, Bool.and_false, Bool.true_or, Bool.false_or, Bool.or_true, Bool.or_false, strip_gn, mProp, noEr, obj_gn, f, bt, fe]
  rw [show ((0 : Nat) : Int) = 0 from rfl] at e
  simp only [mFun_eq', mSeq_eq, mIfS, mRet, mRetN, mAsg, mPar, mExpr, mSkip, mBrk, mCnt, mBad, mRaise, outE_ok, outT_ok, outE_er, seqO_nx, seqO_rt, seqO_er, retO_rt, retO_nx, retO_er, Res.bind_ok, Res.bind_er, Res.bind_bad, mVar_0, mVar_s, mVarI_0, mVarI_s, strip_ref, strip_non, strip_bl, strip_int, strip_str, strip_lst, strip_tup, strip_obj, strip_lck, strip_idn, mC, mBin, mUn, mTst, mCB, mCons, mNil, mStar, mAnd, mOr, mAndT, mOrT, mNotT, mIf, mTru, truV, mTup, mLst, ds?, ds?_map, mCall, withD, mFld, getF_o, getF_r, oNeg, oNot, oAbs, oMax, oMin, oI1, oI2, oInt, add_ii, sub_ii, lt_ii, le_ii, gt_ii, ge_ii, eq_ii, ne_ii, gN, gT_tup, gL_lst, gsC_cons, gsN_nil, List.map_cons, List.map_nil, List.length_cons, List.length_nil, List.cons_append, List.nil_append, List.append_nil, List.replicate_zero, List.replicate_succ, List.set_cons_zero, List.set_cons_succ, List.zip_cons_cons, List.zip_nil_right, List.foldl_cons, List.foldl_nil, Option.map_some, Option.map_none, Option.bind_some, Nat.reduceAdd, Nat.reduceSub, Nat.reduceEqDiff, Nat.reduceLT, Nat.reduceLeDiff, String.reduceEq, reduceCtorEq, Int.reduceLT, Int.reduceLE, Int.reduceEq, Int.reduceAdd, Int.reduceSub, Int.reduceNeg, Int.reduceMul, String.reduceBEq, decide_true, decide_false, if_true, if_false, ite_true, ite_false, Bool.false_eq_true, Bool.not_true, Bool.not_false, Bool.true_and, Bool.false_and, Bool.and_true, Bool.and_false, Bool.true_or, Bool.false_or, Bool.or_true, Bool.or_false, e]
/-! signed, shifted, turned -/
theorem items_tup (xs : List D) (st : Sto) : itemsOf (.d (.tup xs)) st = some (xs.map Va.d) := rfl
theorem items_lst (xs : List D) (st : Sto) : itemsOf (.d (.lst xs)) st = some (xs.map Va.d) := rfl
theorem p_signed {s g0 g : Int} {ps0 ps : List Pc} (h : Good s ps) (hs : 2 ≤ s) (hs2 : s ≤ 10) (hg : g = 1 ∨ g = -1 ∨ g = 0) (st : Sto) :
    pureF m_GreatNumber_signed [.d (gnD s g0 ps0), .d (.int g), .d (.tup (ps.map pcD))] st = .ok (.d (gnD s (sgn0 (if g = 0 then 1 else g) ps) ps)) st ∧
    pureF m_GreatNumber_signed [.d (gnD s g0 ps0), .d (.int g), .d (.lst (ps.map pcD))] st = .ok (.d (gnD s (sgn0 (if g = 0 then 1 else g) ps) ps)) st := by
  have hg' : (if g = 0 then 1 else g) = 1 ∨ (if g = 0 then 1 else g) = -1 := by
    rcases hg with rfl | rfl | rfl
    · exact .inl rfl
    · exact .inr rfl
    · exact .inl rfl
  have mk := p_init h hs hs2 hg' []
  constructor
  · refine pureF_d (st1 := []) rfl ?_
    unfold m_GreatNumber_signed
    by_cases q : g = 0
    · rw [if_pos q] at mk
      simp only [mFun_eq', mSeq_eq, mIfS, mRet, mRetN, mAsg, mPar, mExpr, mSkip, mBrk, mCnt, mBad, mRaise, outE_ok, outT_ok, outE_er, seqO_nx, seqO_rt, seqO_er, retO_rt, retO_nx, retO_er, Res.bind_ok, Res.bind_er, Res.bind_bad, mVar_0, mVar_s, mVarI_0, mVarI_s, strip_ref, strip_non, strip_bl, strip_int, strip_str, strip_lst, strip_tup, strip_obj, strip_lck, strip_idn, mC, mBin, mUn, mTst, mCB, mCons, mNil, mStar, mAnd, mOr, mAndT, mOrT, mNotT, mIf, mTru, truV, mTup, mLst, ds?, ds?_map, mCall, withD, mFld, getF_o, getF_r, oNeg, oNot, oAbs, oMax, oMin, oI1, oI2, oInt, add_ii, sub_ii, lt_ii, le_ii, gt_ii, ge_ii, eq_ii, ne_ii, gN, gT_tup, gL_lst, gsC_cons, gsN_nil, List.map_cons, List.map_nil, List.length_cons, List.length_nil, List.cons_append, List.nil_append, List.append_nil, List.replicate_zero, List.replicate_succ, List.set_cons_zero, List.set_cons_succ, List.zip_cons_cons, List.zip_nil_right, List.foldl_cons, List.foldl_nil, Option.map_some, Option.map_none, Option.bind_some, Nat.reduceAdd, Nat.reduceSub, Nat.reduceEqDiff, Nat.reduceLT, Nat.reduceLeDiff, String.reduceEq, reduceCtorEq, Int.reduceLT, Int.reduceLE, Int.reduceEq, Int.reduceAdd, Int.reduceSub, Int.reduceNeg, Int.reduceMul, String.reduceBEq, decide_true, decide_false, if_true, if_false, ite_true, ite_false, Bool.false_eq_true, Bool.not_true, Bool.not_false, Bool.true_and, Bool.false_and, Bool.and_true, Bool.and_false, Bool.true_or, Bool.false_or, Bool.or_true, Bool.or_false, strip_gn, size_gn, decide_eq_true q, items_tup, items_lst, mk, q]
    · rw [if_neg q] at mk
      simp only [mFun_eq', mSeq_eq, mIfS, mRet, mRetN, mAsg, mPar, mExpr, mSkip, mBrk, mCnt, mBad, mRaise, outE_ok, outT_ok, outE_er, seqO_nx, seqO_rt, seqO_er, retO_rt, retO_nx, retO_er, Res.bind_ok, Res.bind_er, Res.bind_bad, mVar_0, mVar_s, mVarI_0, mVarI_s, strip_ref, strip_non, strip_bl, strip_int, strip_str, strip_lst, strip_tup, strip_obj, strip_lck, strip_idn, mC, mBin, mUn, mTst, mCB, mCons, mNil, mStar, mAnd, mOr, mAndT, mOrT, mNotT, mIf, mTru, truV, mTup, mLst, ds?, ds?_map, mCall, withD, mFld, getF_o, getF_r, oNeg, oNot, oAbs, oMax, oMin, oI1, oI2, oInt, add_ii, sub_ii, lt_ii, le_ii, gt_ii, ge_ii, eq_ii, ne_ii, gN, gT_tup, gL_lst, gsC_cons, gsN_nil, List.map_cons, List.map_nil, List.length_cons, List.length_nil, List.cons_append, List.nil_append, List.append_nil, List.replicate_zero, List.replicate_succ, List.set_cons_zero, List.set_cons_succ, List.zip_cons_cons, List.zip_nil_right, List.foldl_cons, List.foldl_nil, Option.map_some, Option.map_none, Option.bind_some, Nat.reduceAdd, Nat.reduceSub, Nat.reduceEqDiff, Nat.reduceLT, Nat.reduceLeDiff, String.reduceEq, reduceCtorEq, Int.reduceLT, Int.reduceLE, Int.reduceEq, Int.reduceAdd, Int.reduceSub, Int.reduceNeg, Int.reduceMul, String.reduceBEq, decide_true, decide_false, if_true, if_false, ite_true, ite_false, Bool.false_eq_true, Bool.not_true, Bool.not_false, Bool.true_and, Bool.false_and, Bool.and_true, Bool.and_false, Bool.true_or, Bool.false_or, Bool.or_true, Bool.or_false, strip_gn, size_gn, decide_eq_false q, items_tup, items_lst, mk, q]
  · refine pureF_d (st1 := []) rfl ?_
    unfold m_GreatNumber_signed
    by_cases q : g = 0
    · rw [if_pos q] at mk
      simp only [mFun_eq', mSeq_eq, mIfS, mRet, mRetN, mAsg, mPar, mExpr, mSkip, mBrk, mCnt, mBad, mRaise, outE_ok, outT_ok, outE_er, seqO_nx, seqO_rt, seqO_er, retO_rt, retO_nx, retO_er, Res.bind_ok, Res.bind_er, Res.bind_bad, mVar_0, mVar_s, mVarI_0, mVarI_s, strip_ref, strip_non, strip_bl, strip_int, strip_str, strip_lst, strip_tup, strip_obj, strip_lck, strip_idn, mC, mBin, mUn, mTst, mCB, mCons, mNil, mStar, mAnd, mOr, mAndT, mOrT, mNotT, mIf, mTru, truV, mTup, mLst, ds?, ds?_map, mCall, withD, mFld, getF_o, getF_r, oNeg, oNot, oAbs, oMax, oMin, oI1, oI2, oInt, add_ii, sub_ii, lt_ii, le_ii, gt_ii, ge_ii, eq_ii, ne_ii, gN, gT_tup, gL_lst, gsC_cons, gsN_nil, List.map_cons, List.map_nil, List.length_cons, List.length_nil, List.cons_append, List.nil_append, List.append_nil, List.replicate_zero, List.replicate_succ, List.set_cons_zero, List.set_cons_succ, List.zip_cons_cons, List.zip_nil_right, List.foldl_cons, List.foldl_nil, Option.map_some, Option.map_none, Option.bind_some, Nat.reduceAdd, Nat.reduceSub, Nat.reduceEqDiff, Nat.reduceLT, Nat.reduceLeDiff, String.reduceEq, reduceCtorEq, Int.reduceLT, Int.reduceLE, Int.reduceEq, Int.reduceAdd, Int.reduceSub, Int.reduceNeg, Int.reduceMul, String.reduceBEq, decide_true, decide_false, if_true, if_false, ite_true, ite_false, Bool.false_eq_true, Bool.not_true, Bool.not_false, Bool.true_and, Bool.false_and, Bool.and_true, Bool.and_false, Bool.true_or, Bool.false_or, Bool.or_true, Bool.or_false, strip_gn, size_gn, decide_eq_true q, items_tup, items_lst, mk, q]
    · rw [if_neg q] at mk
      simp only [mFun_eq', mSeq_eq, mIfS, mRet, mRetN, mAsg, mPar, mExpr, mSkip, mBrk, mCnt, mBad, mRaise, outE_ok, outT_ok, outE_er, seqO_nx, seqO_rt, seqO_er, retO_rt, retO_nx, retO_er, Res.bind_ok, Res.bind_er, Res.bind_bad, mVar_0, mVar_s, mVarI_0, mVarI_s, strip_ref, strip_non, strip_bl, strip_int, strip_str, strip_lst, strip_tup, strip_obj, strip_lck, strip_idn, mC, mBin, mUn, mTst, mCB, mCons, mNil, mStar, mAnd, mOr, mAndT, mOrT, mNotT, mIf, mTru, truV, mTup, mLst, ds?, ds?_map, mCall, withD, mFld, getF_o, getF_r, oNeg, oNot, oAbs, oMax, oMin, oI1, oI2, oInt, add_ii, sub_ii, lt_ii, le_ii, gt_ii, ge_ii, eq_ii, ne_ii, gN, gT_tup, gL_lst, gsC_cons, gsN_nil, List.map_cons, List.map_nil, List.length_cons, List.length_nil, List.cons_append, List.nil_append, List.append_nil, List.replicate_zero, List.replicate_succ, List.set_cons_zero, List.set_cons_succ, List.zip_cons_cons, List.zip_nil_right, List.foldl_cons, List.foldl_nil, Option.map_some, Option.map_none, Option.bind_some, Nat.reduceAdd, Nat.reduceSub, Nat.reduceEqDiff, Nat.reduceLT, Nat.reduceLeDiff, String.reduceEq, reduceCtorEq, Int.reduceLT, Int.reduceLE, Int.reduceEq, Int.reduceAdd, Int.reduceSub, Int.reduceNeg, Int.reduceMul, String.reduceBEq, decide_true, decide_false, if_true, if_false, ite_true, ite_false, Bool.false_eq_true, Bool.not_true, Bool.not_false, Bool.true_and, Bool.false_and, Bool.and_true, Bool.and_false, Bool.true_or, Bool.false_or, Bool.or_true, Bool.or_false, strip_gn, size_gn, decide_eq_false q, items_tup, items_lst, mk, q]
/-- a great number as it is made: the sign 0 just without pieces -/
structure GN (s g : Int) (ps : List Pc) : Prop where
  gd : Good s ps
  s1 : 2 ≤ s
  s2 : s ≤ 10
  g0 : ps = [] → g = 0
  g1 : ps ≠ [] → g = 1 ∨ g = -1
theorem GN.sg {s g : Int} {ps : List Pc} (h : GN s g ps) : g = 1 ∨ g = -1 ∨ g = 0 := by
  by_cases q : ps = []
  · exact .inr (.inr (h.g0 q))
  · rcases h.g1 q with e | e
    · exact .inl e
    · exact .inr (.inl e)
theorem GN.mk' {s g : Int} {ps : List Pc} (h : Good s ps) (s1 : 2 ≤ s) (s2 : s ≤ 10) (hg : g = 1 ∨ g = -1) : GN s (sgn0 g ps) ps := ⟨h, s1, s2, fun e => if_pos e, fun e => by rw [show sgn0 g ps = g from if_neg e]; exact hg⟩
theorem GN.same {s g : Int} {ps : List Pc} (h : GN s g ps) (c : Int) (hc : c = 1 ∨ c = -1) : sgn0 (if c * g = 0 then 1 else c * g) ps = c * g := by
  by_cases q : ps = []
  · rw [show sgn0 _ ps = 0 from if_pos q, h.g0 q]; simp
  · rw [show sgn0 _ ps = _ from if_neg q, if_neg]
    rcases h.g1 q with e | e <;> rcases hc with e2 | e2 <;> rw [e, e2] <;> decide
theorem p_neg {s g : Int} {ps : List Pc} (h : GN s g ps) (st : Sto) : pureF m_GreatNumber___neg__ [.d (gnD s g ps)] st = .ok (.d (gnD s (-g) ps)) st := by
  refine pureF_d (st1 := []) rfl ?_
  have hg : -g = 1 ∨ -g = -1 ∨ -g = 0 := by have := h.sg; omega
  have sd := (p_signed (g0 := g) (ps0 := ps) h.gd h.s1 h.s2 hg []).1
  have := h.same (-1) (.inr rfl)
  rw [show -1 * g = -g by omega] at this
  rw [this] at sd
  unfold m_GreatNumber___neg__
  simp only [mFun_eq', mSeq_eq, mIfS, mRet, mRetN, mAsg, mPar, mExpr, mSkip, mBrk, mCnt, mBad, mRaise, outE_ok, outT_ok, outE_er, seqO_nx, seqO_rt, seqO_er, retO_rt, retO_nx, retO_er, Res.bind_ok, Res.bind_er, Res.bind_bad, mVar_0, mVar_s, mVarI_0, mVarI_s, strip_ref, strip_non, strip_bl, strip_int, strip_str, strip_lst, strip_tup, strip_obj, strip_lck, strip_idn, mC, mBin, mUn, mTst, mCB, mCons, mNil, mStar, mAnd, mOr, mAndT, mOrT, mNotT, mIf, mTru, truV, mTup, mLst, ds?, ds?_map, mCall, withD, mFld, getF_o, getF_r, oNeg, oNot, oAbs, oMax, oMin, oI1, oI2, oInt, add_ii, sub_ii, lt_ii, le_ii, gt_ii, ge_ii, eq_ii, ne_ii, gN, gT_tup, gL_lst, gsC_cons, gsN_nil, List.map_cons, List.map_nil, List.length_cons, List.length_nil, List.cons_append, List.nil_append, List.append_nil, List.replicate_zero, List.replicate_succ, List.set_cons_zero, List.set_cons_succ, List.zip_cons_cons, List.zip_nil_right, List.foldl_cons, List.foldl_nil, Option.map_some, Option.map_none, Option.bind_some, Nat.reduceAdd, Nat.reduceSub, Nat.reduceEqDiff, Nat.reduceLT, Nat.reduceLeDiff, String.reduceEq, reduceCtorEq, Int.reduceLT, Int.reduceLE, Int.reduceEq, Int.reduceAdd, Int.reduceSub, Int.reduceNeg, Int.reduceMul, String.reduceBEq, decide_true, decide_false, if_true, if_false, ite_true, ite_false, Bool.false_eq_true, Bool.not_true, Bool.not_false, Bool.true_and, Bool.false_and, Bool.and_true, Bool.and_false, Bool.true_or, Bool.false_or, Bool.or_true, Bool.or_false, strip_gn, mMeth, obj_gn, lk_signed, sign_gn, pcs_gn, sd, and_self]
theorem p_abs {s g : Int} {ps : List Pc} (h : GN s g ps) (st : Sto) : pureF m_GreatNumber___abs__ [.d (gnD s g ps)] st = .ok (.d (gnD s (sgn0 1 ps) ps)) st := by
  refine pureF_d (st1 := []) rfl ?_
  have sd := (p_signed (g0 := g) (ps0 := ps) h.gd h.s1 h.s2 (.inl rfl : (1 : Int) = 1 ∨ _) []).1
  rw [if_neg (by decide)] at sd
  unfold m_GreatNumber___abs__
  simp only [mFun_eq', mSeq_eq, mIfS, mRet, mRetN, mAsg, mPar, mExpr, mSkip, mBrk, mCnt, mBad, mRaise, outE_ok, outT_ok, outE_er, seqO_nx, seqO_rt, seqO_er, retO_rt, retO_nx, retO_er, Res.bind_ok, Res.bind_er, Res.bind_bad, mVar_0, mVar_s, mVarI_0, mVarI_s, strip_ref, strip_non, strip_bl, strip_int, strip_str, strip_lst, strip_tup, strip_obj, strip_lck, strip_idn, mC, mBin, mUn, mTst, mCB, mCons, mNil, mStar, mAnd, mOr, mAndT, mOrT, mNotT, mIf, mTru, truV, mTup, mLst, ds?, ds?_map, mCall, withD, mFld, getF_o, getF_r, oNeg, oNot, oAbs, oMax, oMin, oI1, oI2, oInt, add_ii, sub_ii, lt_ii, le_ii, gt_ii, ge_ii, eq_ii, ne_ii, gN, gT_tup, gL_lst, gsC_cons, gsN_nil, List.map_cons, List.map_nil, List.length_cons, List.length_nil, List.cons_append, List.nil_append, List.append_nil, List.replicate_zero, List.replicate_succ, List.set_cons_zero, List.set_cons_succ, List.zip_cons_cons, List.zip_nil_right, List.foldl_cons, List.foldl_nil, Option.map_some, Option.map_none, Option.bind_some, Nat.reduceAdd, Nat.reduceSub, Nat.reduceEqDiff, Nat.reduceLT, Nat.reduceLeDiff, String.reduceEq, reduceCtorEq, Int.reduceLT, Int.reduceLE, Int.reduceEq, Int.reduceAdd, Int.reduceSub, Int.reduceNeg, Int.reduceMul, String.reduceBEq, decide_true, decide_false, if_true, if_false, ite_true, ite_false, Bool.false_eq_true, Bool.not_true, Bool.not_false, Bool.true_and, Bool.false_and, Bool.and_true, Bool.and_false, Bool.true_or, Bool.false_or, Bool.or_true, Bool.or_false, strip_gn, mMeth, obj_gn, lk_signed, pcs_gn, sd, and_self]
/-- the pieces behind << -/
def shiftP (c : Nat) (ps : List Pc) : List Pc := if c = 0 ∨ ps = [] then ps else ([0], c) :: ps
theorem shift_good {s : Int} {ps : List Pc} {c : Nat} (h : Good s ps) (hs : 2 ≤ s) (hn : ps.length < 1000) (hc : c ≤ 10 ^ 30) : Good s (shiftP c ps) := by
  unfold shiftP
  split
  · exact h
  · rename_i q
    have q1 : c ≠ 0 := fun z => q (.inl z)
    have q2 : ps ≠ [] := fun z => q (.inr z)
    refine ⟨by rw [List.length_cons]; omega, fun p hp => ?_, fun p hp f hf => ?_⟩
    · rcases List.mem_cons.mp hp with rfl | hp
      · exact ⟨by simp, by simp, by show 1 ≤ c; omega, hc, fun f hf => by simp at hf; subst hf; omega⟩
      · exact h.pc p hp
    · rw [List.getLast?_cons_of_ne_nil q2] at hp
      exact h.top p hp f hf
theorem p_shift {s g : Int} {ps : List Pc} {c : Nat} (h : GN s g ps) (hn : ps.length < 1000) (hc : c ≤ 10 ^ 30) (st : Sto) : pureF m_GreatNumber___lshift__ [.d (gnD s g ps), .d (.int c)] st = .ok (.d (gnD s g (shiftP c ps))) st := by
  refine pureF_d (st1 := []) rfl ?_
  have bt := b_true (i := (c : Int)) (lo := 0) (hi := 1000000000000000000000000000000) (by omega) (by omega)
  have keep := h.same 1 (.inl rfl)
  rw [show 1 * g = g by omega] at keep
  have sd := (p_signed (g0 := g) (ps0 := ps) h.gd h.s1 h.s2 h.sg []).1
  rw [keep] at sd
  unfold m_GreatNumber___lshift__
  by_cases q : c = 0
  · have e : shiftP c ps = ps := if_pos (.inl q)
    have d1 : decide ((c : Int) = 0) = true := decide_eq_true (by omega)
    simp only [mFun_eq', mSeq_eq, mIfS, mRet, mRetN, mAsg, mPar, mExpr, mSkip, mBrk, mCnt, mBad, mRaise, outE_ok, outT_ok, outE_er, seqO_nx, seqO_rt, seqO_er, retO_rt, retO_nx, retO_er, Res.bind_ok, Res.bind_er, Res.bind_bad, mVar_0, mVar_s, mVarI_0, mVarI_s, strip_ref, strip_non, strip_bl, strip_int, strip_str, strip_lst, strip_tup, strip_obj, strip_lck, strip_idn, mC, mBin, mUn, mTst, mCB, mCons, mNil, mStar, mAnd, mOr, mAndT, mOrT, mNotT, mIf, mTru, truV, mTup, mLst, ds?, ds?_map, mCall, withD, mFld, getF_o, getF_r, oNeg, oNot, oAbs, oMax, oMin, oI1, oI2, oInt, add_ii, sub_ii, lt_ii, le_ii, gt_ii, ge_ii, eq_ii, ne_ii, gN, gT_tup, gL_lst, gsC_cons, gsN_nil, List.map_cons, List.map_nil, List.length_cons, List.length_nil, List.cons_append, List.nil_append, List.append_nil, List.replicate_zero, List.replicate_succ, List.set_cons_zero, List.set_cons_succ, List.zip_cons_cons, List.zip_nil_right, List.foldl_cons, List.foldl_nil, Option.map_some, Option.map_none, Option.bind_some, Nat.reduceAdd, Nat.reduceSub, Nat.reduceEqDiff, Nat.reduceLT, Nat.reduceLeDiff, String.reduceEq, reduceCtorEq, Int.reduceLT, Int.reduceLE, Int.reduceEq, Int.reduceAdd, Int.reduceSub, Int.reduceNeg, Int.reduceMul, String.reduceBEq, decide_true, decide_false, if_true, if_false, ite_true, ite_false, Bool.false_eq_true, Bool.not_true, Bool.not_false, Bool.true_and, Bool.false_and, Bool.and_true, Bool.and_false, Bool.true_or, Bool.false_or, Bool.or_true, Bool.or_false, strip_gn, bt, d1, sign_gn, pcs_gn, mMeth, obj_gn, lk_signed, sd, and_self, e]
  · have d1 : decide ((c : Int) = 0) = false := decide_eq_false (by omega)
    by_cases q2 : ps = []
    · have e : shiftP c ps = ps := if_pos (.inr q2)
      have d2 : decide (g = 0) = true := decide_eq_true (h.g0 q2)
      simp only [mFun_eq', mSeq_eq, mIfS, mRet, mRetN, mAsg, mPar, mExpr, mSkip, mBrk, mCnt, mBad, mRaise, outE_ok, outT_ok, outE_er, seqO_nx, seqO_rt, seqO_er, retO_rt, retO_nx, retO_er, Res.bind_ok, Res.bind_er, Res.bind_bad, mVar_0, mVar_s, mVarI_0, mVarI_s, strip_ref, strip_non, strip_bl, strip_int, strip_str, strip_lst, strip_tup, strip_obj, strip_lck, strip_idn, mC, mBin, mUn, mTst, mCB, mCons, mNil, mStar, mAnd, mOr, mAndT, mOrT, mNotT, mIf, mTru, truV, mTup, mLst, ds?, ds?_map, mCall, withD, mFld, getF_o, getF_r, oNeg, oNot, oAbs, oMax, oMin, oI1, oI2, oInt, add_ii, sub_ii, lt_ii, le_ii, gt_ii, ge_ii, eq_ii, ne_ii, gN, gT_tup, gL_lst, gsC_cons, gsN_nil, List.map_cons, List.map_nil, List.length_cons, List.length_nil, List.cons_append, List.nil_append, List.append_nil, List.replicate_zero, List.replicate_succ, List.set_cons_zero, List.set_cons_succ, List.zip_cons_cons, List.zip_nil_right, List.foldl_cons, List.foldl_nil, Option.map_some, Option.map_none, Option.bind_some, Nat.reduceAdd, Nat.reduceSub, Nat.reduceEqDiff, Nat.reduceLT, Nat.reduceLeDiff, String.reduceEq, reduceCtorEq, Int.reduceLT, Int.reduceLE, Int.reduceEq, Int.reduceAdd, Int.reduceSub, Int.reduceNeg, Int.reduceMul, String.reduceBEq, decide_true, decide_false, if_true, if_false, ite_true, ite_false, Bool.false_eq_true, Bool.not_true, Bool.not_false, Bool.true_and, Bool.false_and, Bool.and_true, Bool.and_false, Bool.true_or, Bool.false_or, Bool.or_true, Bool.or_false, strip_gn, bt, d1, d2, sign_gn, pcs_gn, mMeth, obj_gn, lk_signed, sd, and_self, e]
    · have e : shiftP c ps = ([0], c) :: ps := if_neg (by rintro (z | z); exact q z; exact q2 z)
      have hg := h.g1 q2
      have d2 : decide (g = 0) = false := decide_eq_false (by omega)
      have gd2 := shift_good h.gd h.s1 hn hc
      rw [e] at gd2
      have sd2 := (p_signed (g0 := g) (ps0 := ps) gd2 h.s1 h.s2 h.sg []).2
      rw [if_neg (by omega), show sgn0 g (([0], c) :: ps) = g from if_neg (by simp)] at sd2
      have hl : (ps.map pcD).length + 1 ≤ cap := by rw [List.length_map]; show _ ≤ 1000000; omega
      have sd3 : pureF m_GreatNumber_signed [.d (gnD s g ps), .d (.int g), .d (.lst (.tup [.tup [.int 0], .int c] :: ps.map pcD))] [] = .ok (.d (gnD s g (([0], c) :: ps))) [] := sd2
      have c2 : (2 ≤ cap) = True := eq_true (by decide)
      have c1 : (1 ≤ cap) = True := eq_true (by decide)
      rw [List.length_map] at hl
      simp only [mFun_eq', mSeq_eq, mIfS, mRet, mRetN, mAsg, mPar, mExpr, mSkip, mBrk, mCnt, mBad, mRaise, outE_ok, outT_ok, outE_er, seqO_nx, seqO_rt, seqO_er, retO_rt, retO_nx, retO_er, Res.bind_ok, Res.bind_er, Res.bind_bad, mVar_0, mVar_s, mVarI_0, mVarI_s, strip_ref, strip_non, strip_bl, strip_int, strip_str, strip_lst, strip_tup, strip_obj, strip_lck, strip_idn, mC, mBin, mUn, mTst, mCB, mCons, mNil, mStar, mAnd, mOr, mAndT, mOrT, mNotT, mIf, mTru, truV, mTup, mLst, ds?, ds?_map, mCall, withD, mFld, getF_o, getF_r, oNeg, oNot, oAbs, oMax, oMin, oI1, oI2, oInt, add_ii, sub_ii, lt_ii, le_ii, gt_ii, ge_ii, eq_ii, ne_ii, gN, gT_tup, gL_lst, gsC_cons, gsN_nil, List.map_cons, List.map_nil, List.length_cons, List.length_nil, List.cons_append, List.nil_append, List.append_nil, List.replicate_zero, List.replicate_succ, List.set_cons_zero, List.set_cons_succ, List.zip_cons_cons, List.zip_nil_right, List.foldl_cons, List.foldl_nil, Option.map_some, Option.map_none, Option.bind_some, Nat.reduceAdd, Nat.reduceSub, Nat.reduceEqDiff, Nat.reduceLT, Nat.reduceLeDiff, String.reduceEq, reduceCtorEq, Int.reduceLT, Int.reduceLE, Int.reduceEq, Int.reduceAdd, Int.reduceSub, Int.reduceNeg, Int.reduceMul, String.reduceBEq, decide_true, decide_false, if_true, if_false, ite_true, ite_false, Bool.false_eq_true, Bool.not_true, Bool.not_false, Bool.true_and, Bool.false_and, Bool.and_true, Bool.and_false, Bool.true_or, Bool.false_or, Bool.or_true, Bool.or_false, strip_gn, bt, d1, d2, sign_gn, pcs_gn, items_tup, List.length_map, c1, c2, mMeth, obj_gn, lk_signed, and_self, e, hl, sd3]

/-! P53c: remainders and plain integers -/
theorem forM_pre {α : Type} {g : α → Va} {S : List α → Ev → Sto → Prop} {tg : MG} {b : MS} : ∀ {l pre : List α} {ρ : Ev} {st : Sto}, S pre ρ st →
    (∀ l1 x l2, l = l1 ++ x :: l2 → ∀ ρ st, S (pre ++ l1) ρ st → ∃ ρ1 ρ2 st2, tg (g x) ρ = some ρ1 ∧ b ρ1 st = .nx ρ2 st2 ∧ S (pre ++ l1 ++ [x]) ρ2 st2) →
    ∃ ρ1 st1, forM none tg b (l.map g) ρ st = .nx ρ1 st1 ∧ S (pre ++ l) ρ1 st1
  | [], pre, ρ, st, h, _ => ⟨ρ, st, forM_nil' .., by rw [List.append_nil]; exact h⟩
  | x :: l, pre, ρ, st, h, hb => by
    obtain ⟨ρ1, ρ2, st2, h1, h2, h3⟩ := hb [] x l rfl ρ st (by rw [List.append_nil]; exact h)
    rw [List.append_nil] at h3
    obtain ⟨ρ3, st3, h4, h5⟩ := forM_pre (l := l) (pre := pre ++ [x]) (S := S) (g := g) (tg := tg) (b := b) h3 fun l1 y l2 e ρ st hs => by
      have := hb (x :: l1) y l2 (by rw [e]; rfl) ρ st (by rw [List.append_assoc] at hs; exact hs)
      rw [show pre ++ [x] ++ l1 ++ [y] = pre ++ (x :: l1) ++ [y] by simp]
      exact this
    refine ⟨ρ3, st3, ?_, by rw [List.append_assoc] at h5; exact h5⟩
    rw [List.map_cons, forM_cons', h1]
    simp only [h2, loopO_nx, h4]
theorem mFor_pre {α : Type} {g : α → Va} (S : List α → Ev → Sto → Prop) {mi : MI} {tg : MG} {b : MS} (l : List α) {ρ : Ev} {st st0 : Sto} (h : mi ρ st = .ok ⟨l.map g, none⟩ st0) (hs : S [] ρ st0)
    (hb : ∀ l1 x l2, l = l1 ++ x :: l2 → ∀ ρ st, S l1 ρ st → ∃ ρ1 ρ2 st2, tg (g x) ρ = some ρ1 ∧ b ρ1 st = .nx ρ2 st2 ∧ S (l1 ++ [x]) ρ2 st2) :
    ∃ ρ1 st1, mFor mi tg b ρ st = .nx ρ1 st1 ∧ S l ρ1 st1 := by
  rw [mFor_eq h]
  exact forM_pre (pre := []) hs fun l1 x l2 e ρ st hs => hb l1 x l2 e ρ st hs
theorem mm_e (x f m : Int) : (x % m * f) % m = (x * f) % m := by rw [Int.mul_emod, Int.emod_emod_of_dvd _ (Int.dvd_refl m), ← Int.mul_emod]
def valL (b : Int) : List Int → Int
  | [] => 0
  | f :: l => f + b * valL b l
theorem valL_app (b : Int) (l1 l2 : List Int) : valL b (l1 ++ l2) = valL b l1 + b ^ l1.length * valL b l2 := by
  induction l1 with
  | nil => simp [valL]
  | cons f l ih =>
    rw [List.cons_append, valL, ih, valL, List.length_cons, Int.pow_succ]
    grind
def expd (p : Pc) : List Int := (List.replicate p.2 p.1).flatten
def figs (ps : List Pc) : List Int := (ps.map expd).flatten
theorem expd_len (p : Pc) : (expd p).length = pcN p := by
  unfold expd pcN
  rw [List.length_flatten, List.map_replicate, List.sum_replicate_nat, Nat.mul_comm]
theorem figs_len (ps : List Pc) : (figs ps).length = nfig ps := by
  unfold figs nfig
  rw [List.length_flatten, List.map_map]
  congr 1
  apply List.map_congr_left
  intro p _
  exact expd_len p
theorem figs_app (a b : List Pc) : figs (a ++ b) = figs a ++ figs b := by
  unfold figs
  rw [List.map_append, List.flatten_append]
def blkD (b m : Int) (l : List Int) : D := .tup [.int (valL b l % m), .int (b ^ l.length % m)]
theorem fmod_e {i m : Int} (h : 0 < m) : i.fmod m = i % m := Int.fmod_eq_emod_of_nonneg _ (by omega)
theorem md_e {i m : Int} (h : 0 < m) (st : Sto) : oMod (.d (.int i)) (.d (.int m)) st = .ok (.d (.int (i % m))) st := by
  rw [mod_ok st (by omega), fmod_e h]
theorem p_join {a u c v m : Int} (hm : 0 < m) (hu : Bd 64 u) (hc : Bd 64 c) (hv : Bd 64 v) (st : Sto) : pureF m_joined [.d (.tup [.int a, .int u]), .d (.tup [.int c, .int v]), .d (.int m)] st = .ok (.d (.tup [.int ((a + u * c) % m), .int ((u * v) % m)])) st := by
  refine pureF_d (st1 := []) rfl ?_
  have i0 : ∀ x y : D, oIx (.d (.tup [x, y])) (.d (.int 0)) [] = .ok (.d x) [] := fun x y => ix_tup _ _ _ _ rfl
  have i1 : ∀ x y : D, oIx (.d (.tup [x, y])) (.d (.int 1)) [] = .ok (.d y) [] := fun x y => ix_tup _ _ _ _ rfl
  have m1 := mul_ok (i := u) (j := c) [] (hu.cmul hc (by decide))
  have m2 := mul_ok (i := u) (j := v) [] (hu.cmul hv (by decide))
  have c2 : (2 ≤ cap) = True := eq_true (by decide)
  unfold m_joined
  simp only [mFun_eq', mSeq_eq, mIfS, mRet, mRetN, mAsg, mPar, mExpr, mSkip, mBrk, mCnt, mBad, mRaise, outE_ok, outT_ok, outE_er, seqO_nx, seqO_rt, seqO_er, retO_rt, retO_nx, retO_er, Res.bind_ok, Res.bind_er, Res.bind_bad, mVar_0, mVar_s, mVarI_0, mVarI_s, strip_ref, strip_non, strip_bl, strip_int, strip_str, strip_lst, strip_tup, strip_obj, strip_lck, strip_idn, mC, mBin, mUn, mTst, mCB, mCons, mNil, mStar, mAnd, mOr, mAndT, mOrT, mNotT, mIf, mTru, truV, mTup, mLst, ds?, ds?_map, mCall, withD, mFld, getF_o, getF_r, oNeg, oNot, oAbs, oMax, oMin, oI1, oI2, oInt, add_ii, sub_ii, lt_ii, le_ii, gt_ii, ge_ii, eq_ii, ne_ii, gN, gT_tup, gL_lst, gsC_cons, gsN_nil, List.map_cons, List.map_nil, List.length_cons, List.length_nil, List.cons_append, List.nil_append, List.append_nil, List.replicate_zero, List.replicate_succ, List.set_cons_zero, List.set_cons_succ, List.zip_cons_cons, List.zip_nil_right, List.foldl_cons, List.foldl_nil, Option.map_some, Option.map_none, Option.bind_some, Nat.reduceAdd, Nat.reduceSub, Nat.reduceEqDiff, Nat.reduceLT, Nat.reduceLeDiff, String.reduceEq, reduceCtorEq, Int.reduceLT, Int.reduceLE, Int.reduceEq, Int.reduceAdd, Int.reduceSub, Int.reduceNeg, Int.reduceMul, String.reduceBEq, decide_true, decide_false, if_true, if_false, ite_true, ite_false, Bool.false_eq_true, Bool.not_true, Bool.not_false, Bool.true_and, Bool.false_and, Bool.and_true, Bool.and_false, Bool.true_or, Bool.false_or, Bool.or_true, Bool.or_false, i0, i1, m1, m2, md_e hm, c2]
theorem bd_mod {i m : Int} (h : 0 < m) (h2 : m ≤ 10 ^ 18) : Bd 64 (i % m) := by
  have a := Int.emod_nonneg i (show m ≠ 0 by omega)
  have b := Int.emod_lt_of_pos i h
  unfold Bd
  omega
theorem join_val (b m : Int) (l1 l2 : List Int) : (valL b l1 % m + b ^ l1.length % m * (valL b l2 % m)) % m = valL b (l1 ++ l2) % m ∧ (b ^ l1.length % m * (b ^ l2.length % m)) % m = b ^ (l1 ++ l2).length % m := by
  constructor
  · rw [valL_app, Int.add_emod, Int.emod_emod_of_dvd _ (Int.dvd_refl m), ← Int.mul_emod, ← Int.add_emod]
  · rw [List.length_append, Int.pow_add, ← Int.mul_emod]
theorem p_joinB {b m : Int} (hm : 0 < m) (h2 : m ≤ 10 ^ 18) (l1 l2 : List Int) (st : Sto) : pureF m_joined [.d (blkD b m l1), .d (blkD b m l2), .d (.int m)] st = .ok (.d (blkD b m (l1 ++ l2))) st := by
  have := p_join (a := valL b l1 % m) (u := b ^ l1.length % m) (c := valL b l2 % m) (v := b ^ l2.length % m) hm (bd_mod hm h2) (bd_mod hm h2) (bd_mod hm h2) st
  rw [(join_val b m l1 l2).1, (join_val b m l1 l2).2] at this
  exact this
theorem p_join1 {b m f : Int} (hm : 0 < m) (h2 : m ≤ 10 ^ 18) (hb : Bd 64 b) (hf : Bd 64 f) (l1 : List Int) (st : Sto) : pureF m_joined [.d (blkD b m l1), .d (.tup [.int f, .int b]), .d (.int m)] st = .ok (.d (blkD b m (l1 ++ [f]))) st := by
  have := p_join (a := valL b l1 % m) (u := b ^ l1.length % m) (c := f) (v := b) hm (bd_mod hm h2) hf hb st
  have e1 : (valL b l1 % m + b ^ l1.length % m * f) % m = valL b (l1 ++ [f]) % m := by
    rw [valL_app, Int.add_emod, Int.emod_emod_of_dvd _ (Int.dvd_refl m), mm_e, ← Int.add_emod]
    simp [valL]
  have e2 : (b ^ l1.length % m * b) % m = b ^ (l1 ++ [f]).length % m := by
    rw [mm_e, List.length_append, Int.pow_add, List.length_singleton, Int.pow_succ, Int.pow_zero, Int.one_mul]
  rw [e1, e2] at this
  exact this
theorem strip_blk (b m : Int) (l : List Int) : strip (.d (blkD b m l)) = .d (blkD b m l) := rfl
theorem blk_nil (b m : Int) : (.tup [.int 0, .int (1 % m)] : D) = blkD b m [] := by
  unfold blkD
  simp [valL]
theorem p_block {b m : Int} {w : List Int} (hm : 0 < m) (h2 : m ≤ 10 ^ 18) (hb : Bd 64 b) (hw : ∀ f ∈ w, Bd 64 f) (st : Sto) : pureF m_block_of [.d (.tup (w.map .int)), .d (.int b), .d (.int m)] st = .ok (.d (blkD b m w)) st := by
  refine pureF_d (st1 := []) rfl ?_
  have o := mFor_pre (mi := mItS (mVar 0)) (tg := gN 4) (b := lf0_block_of) (g := fun (f : Int) => Va.d (.int f))
    (S := fun (l : List Int) ρ st => st = [] ∧ ∃ a, ρ = [some (.d (.tup (w.map .int))), some (.d (.int b)), some (.d (.int m)), some (.d (blkD b m l)), a]) w (ρ := [some (.d (.tup (w.map .int))), some (.d (.int b)), some (.d (.int m)), some (.d (blkD b m [])), none]) (st := []) (st0 := [])
    (by rw [itS_tup (xs := w.map .int) (st1 := []) (by simp only [mFun_eq', mSeq_eq, mIfS, mRet, mRetN, mAsg, mPar, mExpr, mSkip, mBrk, mCnt, mBad, mRaise, outE_ok, outT_ok, outE_er, seqO_nx, seqO_rt, seqO_er, retO_rt, retO_nx, retO_er, Res.bind_ok, Res.bind_er, Res.bind_bad, mVar_0, mVar_s, mVarI_0, mVarI_s, strip_ref, strip_non, strip_bl, strip_int, strip_str, strip_lst, strip_tup, strip_obj, strip_lck, strip_idn, mC, mBin, mUn, mTst, mCB, mCons, mNil, mStar, mAnd, mOr, mAndT, mOrT, mNotT, mIf, mTru, truV, mTup, mLst, ds?, ds?_map, mCall, withD, mFld, getF_o, getF_r, oNeg, oNot, oAbs, oMax, oMin, oI1, oI2, oInt, add_ii, sub_ii, lt_ii, le_ii, gt_ii, ge_ii, eq_ii, ne_ii, gN, gT_tup, gL_lst, gsC_cons, gsN_nil, List.map_cons, List.map_nil, List.length_cons, List.length_nil, List.cons_append, List.nil_append, List.append_nil, List.replicate_zero, List.replicate_succ, List.set_cons_zero, List.set_cons_succ, List.zip_cons_cons, List.zip_nil_right, List.foldl_cons, List.foldl_nil, Option.map_some, Option.map_none, Option.bind_some, Nat.reduceAdd, Nat.reduceSub, Nat.reduceEqDiff, Nat.reduceLT, Nat.reduceLeDiff, String.reduceEq, reduceCtorEq, Int.reduceLT, Int.reduceLE, Int.reduceEq, Int.reduceAdd, Int.reduceSub, Int.reduceNeg, Int.reduceMul, String.reduceBEq, decide_true, decide_false, if_true, if_false, ite_true, ite_false, Bool.false_eq_true, Bool.not_true, Bool.not_false, Bool.true_and, Bool.false_and, Bool.and_true, Bool.and_false, Bool.true_or, Bool.false_or, Bool.or_true, Bool.or_false]), List.map_map]; rfl) ⟨rfl, none, rfl⟩ fun l1 f l2 e ρ st hs => by
      obtain ⟨rfl, a, rfl⟩ := hs
      have hf : f ∈ w := by rw [e]; simp
      have j := p_join1 hm h2 hb (hw f hf) l1 []
      have c2 : (2 ≤ cap) = True := eq_true (by decide)
      refine ⟨_, [some (.d (.tup (w.map .int))), some (.d (.int b)), some (.d (.int m)), some (.d (blkD b m (l1 ++ [f]))), some (.d (.int f))], [], rfl, ?_, rfl, _, rfl⟩
      simp only [mFun_eq', mSeq_eq, mIfS, mRet, mRetN, mAsg, mPar, mExpr, mSkip, mBrk, mCnt, mBad, mRaise, outE_ok, outT_ok, outE_er, seqO_nx, seqO_rt, seqO_er, retO_rt, retO_nx, retO_er, Res.bind_ok, Res.bind_er, Res.bind_bad, mVar_0, mVar_s, mVarI_0, mVarI_s, strip_ref, strip_non, strip_bl, strip_int, strip_str, strip_lst, strip_tup, strip_obj, strip_lck, strip_idn, mC, mBin, mUn, mTst, mCB, mCons, mNil, mStar, mAnd, mOr, mAndT, mOrT, mNotT, mIf, mTru, truV, mTup, mLst, ds?, ds?_map, mCall, withD, mFld, getF_o, getF_r, oNeg, oNot, oAbs, oMax, oMin, oI1, oI2, oInt, add_ii, sub_ii, lt_ii, le_ii, gt_ii, ge_ii, eq_ii, ne_ii, gN, gT_tup, gL_lst, gsC_cons, gsN_nil, List.map_cons, List.map_nil, List.length_cons, List.length_nil, List.cons_append, List.nil_append, List.append_nil, List.replicate_zero, List.replicate_succ, List.set_cons_zero, List.set_cons_succ, List.zip_cons_cons, List.zip_nil_right, List.foldl_cons, List.foldl_nil, Option.map_some, Option.map_none, Option.bind_some, Nat.reduceAdd, Nat.reduceSub, Nat.reduceEqDiff, Nat.reduceLT, Nat.reduceLeDiff, String.reduceEq, reduceCtorEq, Int.reduceLT, Int.reduceLE, Int.reduceEq, Int.reduceAdd, Int.reduceSub, Int.reduceNeg, Int.reduceMul, String.reduceBEq, decide_true, decide_false, if_true, if_false, ite_true, ite_false, Bool.false_eq_true, Bool.not_true, Bool.not_false, Bool.true_and, Bool.false_and, Bool.and_true, Bool.and_false, Bool.true_or, Bool.false_or, Bool.or_true, Bool.or_false, lf0_block_of, strip_blk, c2, j]
  obtain ⟨ρ1, st1, h1, rfl, a, rfl⟩ := o
  have c2 : (2 ≤ cap) = True := eq_true (by decide)
  unfold m_block_of
  simp only [mFun_eq', mSeq_eq, mIfS, mRet, mRetN, mAsg, mPar, mExpr, mSkip, mBrk, mCnt, mBad, mRaise, outE_ok, outT_ok, outE_er, seqO_nx, seqO_rt, seqO_er, retO_rt, retO_nx, retO_er, Res.bind_ok, Res.bind_er, Res.bind_bad, mVar_0, mVar_s, mVarI_0, mVarI_s, strip_ref, strip_non, strip_bl, strip_int, strip_str, strip_lst, strip_tup, strip_obj, strip_lck, strip_idn, mC, mBin, mUn, mTst, mCB, mCons, mNil, mStar, mAnd, mOr, mAndT, mOrT, mNotT, mIf, mTru, truV, mTup, mLst, ds?, ds?_map, mCall, withD, mFld, getF_o, getF_r, oNeg, oNot, oAbs, oMax, oMin, oI1, oI2, oInt, add_ii, sub_ii, lt_ii, le_ii, gt_ii, ge_ii, eq_ii, ne_ii, gN, gT_tup, gL_lst, gsC_cons, gsN_nil, List.map_cons, List.map_nil, List.length_cons, List.length_nil, List.cons_append, List.nil_append, List.append_nil, List.replicate_zero, List.replicate_succ, List.set_cons_zero, List.set_cons_succ, List.zip_cons_cons, List.zip_nil_right, List.foldl_cons, List.foldl_nil, Option.map_some, Option.map_none, Option.bind_some, Nat.reduceAdd, Nat.reduceSub, Nat.reduceEqDiff, Nat.reduceLT, Nat.reduceLeDiff, String.reduceEq, reduceCtorEq, Int.reduceLT, Int.reduceLE, Int.reduceEq, Int.reduceAdd, Int.reduceSub, Int.reduceNeg, Int.reduceMul, String.reduceBEq, decide_true, decide_false, if_true, if_false, ite_true, ite_false, Bool.false_eq_true, Bool.not_true, Bool.not_false, Bool.true_and, Bool.false_and, Bool.and_true, Bool.and_false, Bool.true_or, Bool.false_or, Bool.or_true, Bool.or_false, md_e hm, c2]
  rw [blk_nil b m]
  simp only [mFun_eq', mSeq_eq, mIfS, mRet, mRetN, mAsg, mPar, mExpr, mSkip, mBrk, mCnt, mBad, mRaise, outE_ok, outT_ok, outE_er, seqO_nx, seqO_rt, seqO_er, retO_rt, retO_nx, retO_er, Res.bind_ok, Res.bind_er, Res.bind_bad, mVar_0, mVar_s, mVarI_0, mVarI_s, strip_ref, strip_non, strip_bl, strip_int, strip_str, strip_lst, strip_tup, strip_obj, strip_lck, strip_idn, mC, mBin, mUn, mTst, mCB, mCons, mNil, mStar, mAnd, mOr, mAndT, mOrT, mNotT, mIf, mTru, truV, mTup, mLst, ds?, ds?_map, mCall, withD, mFld, getF_o, getF_r, oNeg, oNot, oAbs, oMax, oMin, oI1, oI2, oInt, add_ii, sub_ii, lt_ii, le_ii, gt_ii, ge_ii, eq_ii, ne_ii, gN, gT_tup, gL_lst, gsC_cons, gsN_nil, List.map_cons, List.map_nil, List.length_cons, List.length_nil, List.cons_append, List.nil_append, List.append_nil, List.replicate_zero, List.replicate_succ, List.set_cons_zero, List.set_cons_succ, List.zip_cons_cons, List.zip_nil_right, List.foldl_cons, List.foldl_nil, Option.map_some, Option.map_none, Option.bind_some, Nat.reduceAdd, Nat.reduceSub, Nat.reduceEqDiff, Nat.reduceLT, Nat.reduceLeDiff, String.reduceEq, reduceCtorEq, Int.reduceLT, Int.reduceLE, Int.reduceEq, Int.reduceAdd, Int.reduceSub, Int.reduceNeg, Int.reduceMul, String.reduceBEq, decide_true, decide_false, if_true, if_false, ite_true, ite_false, Bool.false_eq_true, Bool.not_true, Bool.not_false, Bool.true_and, Bool.false_and, Bool.and_true, Bool.and_false, Bool.true_or, Bool.false_or, Bool.or_true, Bool.or_false, h1, strip_blk]
def rep (k : Nat) (w : List Int) : List Int := (List.replicate k w).flatten
theorem rep_add (i j : Nat) (w : List Int) : rep i w ++ rep j w = rep (i + j) w := by
  unfold rep
  rw [← List.flatten_append, List.replicate_append_replicate]
theorem p_repeated {b m : Int} {w : List Int} {t : Nat} (hm : 0 < m) (h2 : m ≤ 10 ^ 18) (st : Sto) : pureF m_repeated [.d (blkD b m w), .d (.int t), .d (.int m)] st = .ok (.d (blkD b m (rep t w))) st := by
  refine pureF_d (st1 := []) rfl ?_
  have o := mWhile_inv (c := lc1_repeated) (b := lw0_repeated) (I := fun n ρ st => st = [] ∧ ∃ i j : Nat, ρ = [some (.d (blkD b m (rep j w))), some (.d (.int n)), some (.d (.int m)), some (.d (blkD b m (rep i w)))] ∧ i + j * n = t)
    (Q := fun ρ st => st = [] ∧ ∃ x, ρ = [x, some (.d (.int 0)), some (.d (.int m)), some (.d (blkD b m (rep t w)))]) (fun n ρ st hi => by
      obtain ⟨rfl, i, j, rfl, e⟩ := hi
      by_cases q : n = 0
      · subst q
        refine .inl ⟨?_, rfl, some (.d (blkD b m (rep j w))), ?_⟩
        · simp only [mFun_eq', mSeq_eq, mIfS, mRet, mRetN, mAsg, mPar, mExpr, mSkip, mBrk, mCnt, mBad, mRaise, outE_ok, outT_ok, outE_er, seqO_nx, seqO_rt, seqO_er, retO_rt, retO_nx, retO_er, Res.bind_ok, Res.bind_er, Res.bind_bad, mVar_0, mVar_s, mVarI_0, mVarI_s, strip_ref, strip_non, strip_bl, strip_int, strip_str, strip_lst, strip_tup, strip_obj, strip_lck, strip_idn, mC, mBin, mUn, mTst, mCB, mCons, mNil, mStar, mAnd, mOr, mAndT, mOrT, mNotT, mIf, mTru, truV, mTup, mLst, ds?, ds?_map, mCall, withD, mFld, getF_o, getF_r, oNeg, oNot, oAbs, oMax, oMin, oI1, oI2, oInt, add_ii, sub_ii, lt_ii, le_ii, gt_ii, ge_ii, eq_ii, ne_ii, gN, gT_tup, gL_lst, gsC_cons, gsN_nil, List.map_cons, List.map_nil, List.length_cons, List.length_nil, List.cons_append, List.nil_append, List.append_nil, List.replicate_zero, List.replicate_succ, List.set_cons_zero, List.set_cons_succ, List.zip_cons_cons, List.zip_nil_right, List.foldl_cons, List.foldl_nil, Option.map_some, Option.map_none, Option.bind_some, Nat.reduceAdd, Nat.reduceSub, Nat.reduceEqDiff, Nat.reduceLT, Nat.reduceLeDiff, String.reduceEq, reduceCtorEq, Int.reduceLT, Int.reduceLE, Int.reduceEq, Int.reduceAdd, Int.reduceSub, Int.reduceNeg, Int.reduceMul, String.reduceBEq, decide_true, decide_false, if_true, if_false, ite_true, ite_false, Bool.false_eq_true, Bool.not_true, Bool.not_false, Bool.true_and, Bool.false_and, Bool.and_true, Bool.and_false, Bool.true_or, Bool.false_or, Bool.or_true, Bool.or_false, lc1_repeated]
          rfl
        · rw [Nat.mul_zero, Nat.add_zero] at e
          rw [e]
          rfl
      · refine .inr ⟨[], [some (.d (blkD b m (rep (j + j) w))), some (.d (.int ((n / 2 : Nat) : Int))), some (.d (.int m)), some (.d (blkD b m (rep (if n % 2 = 1 then i + j else i) w)))], [], n / 2, ?_, ?_, by omega, rfl, _, _, rfl, ?_⟩
        · have d : decide ((0 : Int) < (n : Int)) = true := decide_eq_true (by omega)
          simp only [mFun_eq', mSeq_eq, mIfS, mRet, mRetN, mAsg, mPar, mExpr, mSkip, mBrk, mCnt, mBad, mRaise, outE_ok, outT_ok, outE_er, seqO_nx, seqO_rt, seqO_er, retO_rt, retO_nx, retO_er, Res.bind_ok, Res.bind_er, Res.bind_bad, mVar_0, mVar_s, mVarI_0, mVarI_s, strip_ref, strip_non, strip_bl, strip_int, strip_str, strip_lst, strip_tup, strip_obj, strip_lck, strip_idn, mC, mBin, mUn, mTst, mCB, mCons, mNil, mStar, mAnd, mOr, mAndT, mOrT, mNotT, mIf, mTru, truV, mTup, mLst, ds?, ds?_map, mCall, withD, mFld, getF_o, getF_r, oNeg, oNot, oAbs, oMax, oMin, oI1, oI2, oInt, add_ii, sub_ii, lt_ii, le_ii, gt_ii, ge_ii, eq_ii, ne_ii, gN, gT_tup, gL_lst, gsC_cons, gsN_nil, List.map_cons, List.map_nil, List.length_cons, List.length_nil, List.cons_append, List.nil_append, List.append_nil, List.replicate_zero, List.replicate_succ, List.set_cons_zero, List.set_cons_succ, List.zip_cons_cons, List.zip_nil_right, List.foldl_cons, List.foldl_nil, Option.map_some, Option.map_none, Option.bind_some, Nat.reduceAdd, Nat.reduceSub, Nat.reduceEqDiff, Nat.reduceLT, Nat.reduceLeDiff, String.reduceEq, reduceCtorEq, Int.reduceLT, Int.reduceLE, Int.reduceEq, Int.reduceAdd, Int.reduceSub, Int.reduceNeg, Int.reduceMul, String.reduceBEq, decide_true, decide_false, if_true, if_false, ite_true, ite_false, Bool.false_eq_true, Bool.not_true, Bool.not_false, Bool.true_and, Bool.false_and, Bool.and_true, Bool.and_false, Bool.true_or, Bool.false_or, Bool.or_true, Bool.or_false, lc1_repeated, d]
        · have j1 := p_joinB (b := b) hm h2 (rep i w) (rep j w) []
          have j2 := p_joinB (b := b) hm h2 (rep j w) (rep j w) []
          rw [rep_add] at j1 j2
          have a1 : oAnd1 (.d (.int n)) (.d (.int 1)) [] = .ok (.d (.int ((n : Int) % 2))) [] := by unfold oAnd1; exact if_pos ⟨by omega, rfl⟩
          have a2 : oHalf (.d (.int n)) (.d (.int 1)) [] = .ok (.d (.int ((n / 2 : Nat) : Int))) [] := by
            have : oHalf (.d (.int n)) (.d (.int 1)) [] = .ok (.d (.int ((n : Int) / 2))) [] := by unfold oHalf; exact if_pos rfl
            rw [this]
            rfl
          by_cases r : n % 2 = 1
          · have d : decide ((n : Int) % 2 = 1) = true := decide_eq_true (by omega)
            simp only [mFun_eq', mSeq_eq, mIfS, mRet, mRetN, mAsg, mPar, mExpr, mSkip, mBrk, mCnt, mBad, mRaise, outE_ok, outT_ok, outE_er, seqO_nx, seqO_rt, seqO_er, retO_rt, retO_nx, retO_er, Res.bind_ok, Res.bind_er, Res.bind_bad, mVar_0, mVar_s, mVarI_0, mVarI_s, strip_ref, strip_non, strip_bl, strip_int, strip_str, strip_lst, strip_tup, strip_obj, strip_lck, strip_idn, mC, mBin, mUn, mTst, mCB, mCons, mNil, mStar, mAnd, mOr, mAndT, mOrT, mNotT, mIf, mTru, truV, mTup, mLst, ds?, ds?_map, mCall, withD, mFld, getF_o, getF_r, oNeg, oNot, oAbs, oMax, oMin, oI1, oI2, oInt, add_ii, sub_ii, lt_ii, le_ii, gt_ii, ge_ii, eq_ii, ne_ii, gN, gT_tup, gL_lst, gsC_cons, gsN_nil, List.map_cons, List.map_nil, List.length_cons, List.length_nil, List.cons_append, List.nil_append, List.append_nil, List.replicate_zero, List.replicate_succ, List.set_cons_zero, List.set_cons_succ, List.zip_cons_cons, List.zip_nil_right, List.foldl_cons, List.foldl_nil, Option.map_some, Option.map_none, Option.bind_some, Nat.reduceAdd, Nat.reduceSub, Nat.reduceEqDiff, Nat.reduceLT, Nat.reduceLeDiff, String.reduceEq, reduceCtorEq, Int.reduceLT, Int.reduceLE, Int.reduceEq, Int.reduceAdd, Int.reduceSub, Int.reduceNeg, Int.reduceMul, String.reduceBEq, decide_true, decide_false, if_true, if_false, ite_true, ite_false, Bool.false_eq_true, Bool.not_true, Bool.not_false, Bool.true_and, Bool.false_and, Bool.and_true, Bool.and_false, Bool.true_or, Bool.false_or, Bool.or_true, Bool.or_false, lw0_repeated, a1, d, strip_blk, j1, j2, mAug, List.getElem?_cons_succ, List.getElem?_cons_zero, a2, r]
          · have d : decide ((n : Int) % 2 = 1) = false := decide_eq_false (by omega)
            simp only [mFun_eq', mSeq_eq, mIfS, mRet, mRetN, mAsg, mPar, mExpr, mSkip, mBrk, mCnt, mBad, mRaise, outE_ok, outT_ok, outE_er, seqO_nx, seqO_rt, seqO_er, retO_rt, retO_nx, retO_er, Res.bind_ok, Res.bind_er, Res.bind_bad, mVar_0, mVar_s, mVarI_0, mVarI_s, strip_ref, strip_non, strip_bl, strip_int, strip_str, strip_lst, strip_tup, strip_obj, strip_lck, strip_idn, mC, mBin, mUn, mTst, mCB, mCons, mNil, mStar, mAnd, mOr, mAndT, mOrT, mNotT, mIf, mTru, truV, mTup, mLst, ds?, ds?_map, mCall, withD, mFld, getF_o, getF_r, oNeg, oNot, oAbs, oMax, oMin, oI1, oI2, oInt, add_ii, sub_ii, lt_ii, le_ii, gt_ii, ge_ii, eq_ii, ne_ii, gN, gT_tup, gL_lst, gsC_cons, gsN_nil, List.map_cons, List.map_nil, List.length_cons, List.length_nil, List.cons_append, List.nil_append, List.append_nil, List.replicate_zero, List.replicate_succ, List.set_cons_zero, List.set_cons_succ, List.zip_cons_cons, List.zip_nil_right, List.foldl_cons, List.foldl_nil, Option.map_some, Option.map_none, Option.bind_some, Nat.reduceAdd, Nat.reduceSub, Nat.reduceEqDiff, Nat.reduceLT, Nat.reduceLeDiff, String.reduceEq, reduceCtorEq, Int.reduceLT, Int.reduceLE, Int.reduceEq, Int.reduceAdd, Int.reduceSub, Int.reduceNeg, Int.reduceMul, String.reduceBEq, decide_true, decide_false, if_true, if_false, ite_true, ite_false, Bool.false_eq_true, Bool.not_true, Bool.not_false, Bool.true_and, Bool.false_and, Bool.and_true, Bool.and_false, Bool.true_or, Bool.false_or, Bool.or_true, Bool.or_false, lw0_repeated, a1, d, strip_blk, j1, j2, mAug, List.getElem?_cons_succ, List.getElem?_cons_zero, a2, r]
        · rw [← e]
          by_cases r : n % 2 = 1
          · rw [if_pos r]
            have : n = 2 * (n / 2) + 1 := by omega
            generalize n / 2 = h at *
            subst this
            grind
          · rw [if_neg r]
            have : n = 2 * (n / 2) := by omega
            generalize n / 2 = h at *
            subst this
            grind) (n := t) (ρ := [some (.d (blkD b m (rep 1 w))), some (.d (.int t)), some (.d (.int m)), some (.d (blkD b m (rep 0 w)))]) (st := []) ⟨rfl, 0, 1, rfl, by omega⟩
  obtain ⟨ρ1, st1, h1, rfl, x, rfl⟩ := o
  have r1 : rep 1 w = w := by simp [rep]
  have r0 : rep 0 w = [] := by simp [rep]
  rw [r1, r0] at h1
  have c2 : (2 ≤ cap) = True := eq_true (by decide)
  unfold m_repeated
  simp only [mFun_eq', mSeq_eq, mIfS, mRet, mRetN, mAsg, mPar, mExpr, mSkip, mBrk, mCnt, mBad, mRaise, outE_ok, outT_ok, outE_er, seqO_nx, seqO_rt, seqO_er, retO_rt, retO_nx, retO_er, Res.bind_ok, Res.bind_er, Res.bind_bad, mVar_0, mVar_s, mVarI_0, mVarI_s, strip_ref, strip_non, strip_bl, strip_int, strip_str, strip_lst, strip_tup, strip_obj, strip_lck, strip_idn, mC, mBin, mUn, mTst, mCB, mCons, mNil, mStar, mAnd, mOr, mAndT, mOrT, mNotT, mIf, mTru, truV, mTup, mLst, ds?, ds?_map, mCall, withD, mFld, getF_o, getF_r, oNeg, oNot, oAbs, oMax, oMin, oI1, oI2, oInt, add_ii, sub_ii, lt_ii, le_ii, gt_ii, ge_ii, eq_ii, ne_ii, gN, gT_tup, gL_lst, gsC_cons, gsN_nil, List.map_cons, List.map_nil, List.length_cons, List.length_nil, List.cons_append, List.nil_append, List.append_nil, List.replicate_zero, List.replicate_succ, List.set_cons_zero, List.set_cons_succ, List.zip_cons_cons, List.zip_nil_right, List.foldl_cons, List.foldl_nil, Option.map_some, Option.map_none, Option.bind_some, Nat.reduceAdd, Nat.reduceSub, Nat.reduceEqDiff, Nat.reduceLT, Nat.reduceLeDiff, String.reduceEq, reduceCtorEq, Int.reduceLT, Int.reduceLE, Int.reduceEq, Int.reduceAdd, Int.reduceSub, Int.reduceNeg, Int.reduceMul, String.reduceBEq, decide_true, decide_false, if_true, if_false, ite_true, ite_false, Bool.false_eq_true, Bool.not_true, Bool.not_false, Bool.true_and, Bool.false_and, Bool.and_true, Bool.and_false, Bool.true_or, Bool.false_or, Bool.or_true, Bool.or_false, md_e hm, c2]
  rw [blk_nil b m]
  simp only [mFun_eq', mSeq_eq, mIfS, mRet, mRetN, mAsg, mPar, mExpr, mSkip, mBrk, mCnt, mBad, mRaise, outE_ok, outT_ok, outE_er, seqO_nx, seqO_rt, seqO_er, retO_rt, retO_nx, retO_er, Res.bind_ok, Res.bind_er, Res.bind_bad, mVar_0, mVar_s, mVarI_0, mVarI_s, strip_ref, strip_non, strip_bl, strip_int, strip_str, strip_lst, strip_tup, strip_obj, strip_lck, strip_idn, mC, mBin, mUn, mTst, mCB, mCons, mNil, mStar, mAnd, mOr, mAndT, mOrT, mNotT, mIf, mTru, truV, mTup, mLst, ds?, ds?_map, mCall, withD, mFld, getF_o, getF_r, oNeg, oNot, oAbs, oMax, oMin, oI1, oI2, oInt, add_ii, sub_ii, lt_ii, le_ii, gt_ii, ge_ii, eq_ii, ne_ii, gN, gT_tup, gL_lst, gsC_cons, gsN_nil, List.map_cons, List.map_nil, List.length_cons, List.length_nil, List.cons_append, List.nil_append, List.append_nil, List.replicate_zero, List.replicate_succ, List.set_cons_zero, List.set_cons_succ, List.zip_cons_cons, List.zip_nil_right, List.foldl_cons, List.foldl_nil, Option.map_some, Option.map_none, Option.bind_some, Nat.reduceAdd, Nat.reduceSub, Nat.reduceEqDiff, Nat.reduceLT, Nat.reduceLeDiff, String.reduceEq, reduceCtorEq, Int.reduceLT, Int.reduceLE, Int.reduceEq, Int.reduceAdd, Int.reduceSub, Int.reduceNeg, Int.reduceMul, String.reduceBEq, decide_true, decide_false, if_true, if_false, ite_true, ite_false, Bool.false_eq_true, Bool.not_true, Bool.not_false, Bool.true_and, Bool.false_and, Bool.and_true, Bool.and_false, Bool.true_or, Bool.false_or, Bool.or_true, Bool.or_false, h1, strip_blk]
theorem dig_bd {s f : Int} (h1 : 0 ≤ f) (h2 : f < s) (hs : s ≤ 10) : Bd 64 f := by unfold Bd; omega
theorem p_remainder {s g m : Int} {ps : List Pc} (h : GN s g ps) (hm : 0 < m) (h2 : m ≤ 10 ^ 18) (st : Sto) : pureF m_GreatNumber_remainder [.d (gnD s g ps), .d (.int m)] st = .ok (.d (.int ((g * valL s (figs ps)) % m))) st := by
  refine pureF_d (st1 := []) rfl ?_
  have sb : Bd 64 s := by unfold Bd; have := h.s1; have := h.s2; omega
  have o := mFor_pre (mi := mItS (mFld "own_pieces" (mVar 0))) (tg := gT 2 (gsC (gN 3) (gsC (gN 4) gsN))) (b := lf0_GreatNumber_remainder) (g := fun (p : Pc) => Va.d (pcD p))
    (S := fun (l : List Pc) ρ st => st = [] ∧ ∃ a c, ρ = [some (.d (gnD s g ps)), some (.d (.int m)), some (.d (blkD s m (figs l))), a, c]) ps (ρ := [some (.d (gnD s g ps)), some (.d (.int m)), some (.d (blkD s m [])), none, none]) (st := []) (st0 := [])
    (by rw [itS_tup (xs := ps.map pcD) (st1 := []) (by simp only [mFun_eq', mSeq_eq, mIfS, mRet, mRetN, mAsg, mPar, mExpr, mSkip, mBrk, mCnt, mBad, mRaise, outE_ok, outT_ok, outE_er, seqO_nx, seqO_rt, seqO_er, retO_rt, retO_nx, retO_er, Res.bind_ok, Res.bind_er, Res.bind_bad, mVar_0, mVar_s, mVarI_0, mVarI_s, strip_ref, strip_non, strip_bl, strip_int, strip_str, strip_lst, strip_tup, strip_obj, strip_lck, strip_idn, mC, mBin, mUn, mTst, mCB, mCons, mNil, mStar, mAnd, mOr, mAndT, mOrT, mNotT, mIf, mTru, truV, mTup, mLst, ds?, ds?_map, mCall, withD, mFld, getF_o, getF_r, oNeg, oNot, oAbs, oMax, oMin, oI1, oI2, oInt, add_ii, sub_ii, lt_ii, le_ii, gt_ii, ge_ii, eq_ii, ne_ii, gN, gT_tup, gL_lst, gsC_cons, gsN_nil, List.map_cons, List.map_nil, List.length_cons, List.length_nil, List.cons_append, List.nil_append, List.append_nil, List.replicate_zero, List.replicate_succ, List.set_cons_zero, List.set_cons_succ, List.zip_cons_cons, List.zip_nil_right, List.foldl_cons, List.foldl_nil, Option.map_some, Option.map_none, Option.bind_some, Nat.reduceAdd, Nat.reduceSub, Nat.reduceEqDiff, Nat.reduceLT, Nat.reduceLeDiff, String.reduceEq, reduceCtorEq, Int.reduceLT, Int.reduceLE, Int.reduceEq, Int.reduceAdd, Int.reduceSub, Int.reduceNeg, Int.reduceMul, String.reduceBEq, decide_true, decide_false, if_true, if_false, ite_true, ite_false, Bool.false_eq_true, Bool.not_true, Bool.not_false, Bool.true_and, Bool.false_and, Bool.and_true, Bool.and_false, Bool.true_or, Bool.false_or, Bool.or_true, Bool.or_false, strip_gn, pcs_gn]), List.map_map]; rfl) ⟨rfl, none, none, rfl⟩ fun l1 p l2 e ρ st hs => by
      obtain ⟨rfl, a, c, rfl⟩ := hs
      have hp : p ∈ ps := by rw [e]; simp
      have gp := h.gd.pc p hp
      have b1 := p_block (b := s) (w := p.1) hm h2 sb (fun f hf => dig_bd (gp.fg f hf).1 (gp.fg f hf).2 h.s2) []
      have b2 := p_repeated (b := s) (w := p.1) (t := p.2) hm h2 []
      have b3 := p_joinB (b := s) hm h2 (figs l1) (rep p.2 p.1) []
      have e1 : figs (l1 ++ [p]) = figs l1 ++ rep p.2 p.1 := by rw [figs_app]; simp [figs, expd, rep]
      rw [← e1] at b3
      refine ⟨[some (.d (gnD s g ps)), some (.d (.int m)), some (.d (blkD s m (figs l1))), some (.d (.tup (p.1.map .int))), some (.d (.int p.2))], [some (.d (gnD s g ps)), some (.d (.int m)), some (.d (blkD s m (figs (l1 ++ [p])))), some (.d (.tup (p.1.map .int))), some (.d (.int p.2))], [], rfl, ?_, rfl, _, _, rfl⟩
      simp only [mFun_eq', mSeq_eq, mIfS, mRet, mRetN, mAsg, mPar, mExpr, mSkip, mBrk, mCnt, mBad, mRaise, outE_ok, outT_ok, outE_er, seqO_nx, seqO_rt, seqO_er, retO_rt, retO_nx, retO_er, Res.bind_ok, Res.bind_er, Res.bind_bad, mVar_0, mVar_s, mVarI_0, mVarI_s, strip_ref, strip_non, strip_bl, strip_int, strip_str, strip_lst, strip_tup, strip_obj, strip_lck, strip_idn, mC, mBin, mUn, mTst, mCB, mCons, mNil, mStar, mAnd, mOr, mAndT, mOrT, mNotT, mIf, mTru, truV, mTup, mLst, ds?, ds?_map, mCall, withD, mFld, getF_o, getF_r, oNeg, oNot, oAbs, oMax, oMin, oI1, oI2, oInt, add_ii, sub_ii, lt_ii, le_ii, gt_ii, ge_ii, eq_ii, ne_ii, gN, gT_tup, gL_lst, gsC_cons, gsN_nil, List.map_cons, List.map_nil, List.length_cons, List.length_nil, List.cons_append, List.nil_append, List.append_nil, List.replicate_zero, List.replicate_succ, List.set_cons_zero, List.set_cons_succ, List.zip_cons_cons, List.zip_nil_right, List.foldl_cons, List.foldl_nil, Option.map_some, Option.map_none, Option.bind_some, Nat.reduceAdd, Nat.reduceSub, Nat.reduceEqDiff, Nat.reduceLT, Nat.reduceLeDiff, String.reduceEq, reduceCtorEq, Int.reduceLT, Int.reduceLE, Int.reduceEq, Int.reduceAdd, Int.reduceSub, Int.reduceNeg, Int.reduceMul, String.reduceBEq, decide_true, decide_false, if_true, if_false, ite_true, ite_false, Bool.false_eq_true, Bool.not_true, Bool.not_false, Bool.true_and, Bool.false_and, Bool.and_true, Bool.and_false, Bool.true_or, Bool.false_or, Bool.or_true, Bool.or_false, lf0_GreatNumber_remainder, strip_gn, strip_blk, size_gn, b1, b2, b3]
  obtain ⟨ρ1, st1, h1, rfl, a, c, rfl⟩ := o
  have rq : pureF m_require_modulus [.d (.int m)] [] = .ok (.d .non) [] := by
    refine pureF_d (st1 := []) rfl ?_
    unfold m_require_modulus
    simp only [mFun_eq', mSeq_eq, mIfS, mRet, mRetN, mAsg, mPar, mExpr, mSkip, mBrk, mCnt, mBad, mRaise, outE_ok, outT_ok, outE_er, seqO_nx, seqO_rt, seqO_er, retO_rt, retO_nx, retO_er, Res.bind_ok, Res.bind_er, Res.bind_bad, mVar_0, mVar_s, mVarI_0, mVarI_s, strip_ref, strip_non, strip_bl, strip_int, strip_str, strip_lst, strip_tup, strip_obj, strip_lck, strip_idn, mC, mBin, mUn, mTst, mCB, mCons, mNil, mStar, mAnd, mOr, mAndT, mOrT, mNotT, mIf, mTru, truV, mTup, mLst, ds?, ds?_map, mCall, withD, mFld, getF_o, getF_r, oNeg, oNot, oAbs, oMax, oMin, oI1, oI2, oInt, add_ii, sub_ii, lt_ii, le_ii, gt_ii, ge_ii, eq_ii, ne_ii, gN, gT_tup, gL_lst, gsC_cons, gsN_nil, List.map_cons, List.map_nil, List.length_cons, List.length_nil, List.cons_append, List.nil_append, List.append_nil, List.replicate_zero, List.replicate_succ, List.set_cons_zero, List.set_cons_succ, List.zip_cons_cons, List.zip_nil_right, List.foldl_cons, List.foldl_nil, Option.map_some, Option.map_none, Option.bind_some, Nat.reduceAdd, Nat.reduceSub, Nat.reduceEqDiff, Nat.reduceLT, Nat.reduceLeDiff, String.reduceEq, reduceCtorEq, Int.reduceLT, Int.reduceLE, Int.reduceEq, Int.reduceAdd, Int.reduceSub, Int.reduceNeg, Int.reduceMul, String.reduceBEq, decide_true, decide_false, if_true, if_false, ite_true, ite_false, Bool.false_eq_true, Bool.not_true, Bool.not_false, Bool.true_and, Bool.false_and, Bool.and_true, Bool.and_false, Bool.true_or, Bool.false_or, Bool.or_true, Bool.or_false, b_true (i := m) (lo := 1) (hi := 1000000000000000000) (by omega) (by omega)]
  have c2 : (2 ≤ cap) = True := eq_true (by decide)
  have ix : oIx (.d (blkD s m (figs ps))) (.d (.int 0)) [] = .ok (.d (.int (valL s (figs ps) % m))) [] := ix_tup _ _ _ _ rfl
  have mu := mul_ok (i := g) (j := valL s (figs ps) % m) [] ((show Bd 64 g by unfold Bd; have := h.sg; omega).cmul (bd_mod hm h2) (by decide))
  have e3 : (g * (valL s (figs ps) % m)) % m = (g * valL s (figs ps)) % m := by rw [Int.mul_comm, mm_e, Int.mul_comm]
  unfold m_GreatNumber_remainder
  simp only [mFun_eq', mSeq_eq, mIfS, mRet, mRetN, mAsg, mPar, mExpr, mSkip, mBrk, mCnt, mBad, mRaise, outE_ok, outT_ok, outE_er, seqO_nx, seqO_rt, seqO_er, retO_rt, retO_nx, retO_er, Res.bind_ok, Res.bind_er, Res.bind_bad, mVar_0, mVar_s, mVarI_0, mVarI_s, strip_ref, strip_non, strip_bl, strip_int, strip_str, strip_lst, strip_tup, strip_obj, strip_lck, strip_idn, mC, mBin, mUn, mTst, mCB, mCons, mNil, mStar, mAnd, mOr, mAndT, mOrT, mNotT, mIf, mTru, truV, mTup, mLst, ds?, ds?_map, mCall, withD, mFld, getF_o, getF_r, oNeg, oNot, oAbs, oMax, oMin, oI1, oI2, oInt, add_ii, sub_ii, lt_ii, le_ii, gt_ii, ge_ii, eq_ii, ne_ii, gN, gT_tup, gL_lst, gsC_cons, gsN_nil, List.map_cons, List.map_nil, List.length_cons, List.length_nil, List.cons_append, List.nil_append, List.append_nil, List.replicate_zero, List.replicate_succ, List.set_cons_zero, List.set_cons_succ, List.zip_cons_cons, List.zip_nil_right, List.foldl_cons, List.foldl_nil, Option.map_some, Option.map_none, Option.bind_some, Nat.reduceAdd, Nat.reduceSub, Nat.reduceEqDiff, Nat.reduceLT, Nat.reduceLeDiff, String.reduceEq, reduceCtorEq, Int.reduceLT, Int.reduceLE, Int.reduceEq, Int.reduceAdd, Int.reduceSub, Int.reduceNeg, Int.reduceMul, String.reduceBEq, decide_true, decide_false, if_true, if_false, ite_true, ite_false, Bool.false_eq_true, Bool.not_true, Bool.not_false, Bool.true_and, Bool.false_and, Bool.and_true, Bool.and_false, Bool.true_or, Bool.false_or, Bool.or_true, Bool.or_false, rq, md_e hm, c2]
  rw [blk_nil s m]
  simp only [mFun_eq', mSeq_eq, mIfS, mRet, mRetN, mAsg, mPar, mExpr, mSkip, mBrk, mCnt, mBad, mRaise, outE_ok, outT_ok, outE_er, seqO_nx, seqO_rt, seqO_er, retO_rt, retO_nx, retO_er, Res.bind_ok, Res.bind_er, Res.bind_bad, mVar_0, mVar_s, mVarI_0, mVarI_s, strip_ref, strip_non, strip_bl, strip_int, strip_str, strip_lst, strip_tup, strip_obj, strip_lck, strip_idn, mC, mBin, mUn, mTst, mCB, mCons, mNil, mStar, mAnd, mOr, mAndT, mOrT, mNotT, mIf, mTru, truV, mTup, mLst, ds?, ds?_map, mCall, withD, mFld, getF_o, getF_r, oNeg, oNot, oAbs, oMax, oMin, oI1, oI2, oInt, add_ii, sub_ii, lt_ii, le_ii, gt_ii, ge_ii, eq_ii, ne_ii, gN, gT_tup, gL_lst, gsC_cons, gsN_nil, List.map_cons, List.map_nil, List.length_cons, List.length_nil, List.cons_append, List.nil_append, List.append_nil, List.replicate_zero, List.replicate_succ, List.set_cons_zero, List.set_cons_succ, List.zip_cons_cons, List.zip_nil_right, List.foldl_cons, List.foldl_nil, Option.map_some, Option.map_none, Option.bind_some, Nat.reduceAdd, Nat.reduceSub, Nat.reduceEqDiff, Nat.reduceLT, Nat.reduceLeDiff, String.reduceEq, reduceCtorEq, Int.reduceLT, Int.reduceLE, Int.reduceEq, Int.reduceAdd, Int.reduceSub, Int.reduceNeg, Int.reduceMul, String.reduceBEq, decide_true, decide_false, if_true, if_false, ite_true, ite_false, Bool.false_eq_true, Bool.not_true, Bool.not_false, Bool.true_and, Bool.false_and, Bool.and_true, Bool.and_false, Bool.true_or, Bool.false_or, Bool.or_true, Bool.or_false, h1, strip_gn, sign_gn, strip_blk, ix, mu, md_e hm, e3]

/-! P53d: the plain integer -/
def Dig (s : Int) (l : List Int) : Prop := ∀ f ∈ l, 0 ≤ f ∧ f < s
theorem pow_pos' {s : Int} (hs : 0 < s) (n : Nat) : 0 < s ^ n := Int.pow_pos hs
theorem valL_bd {s : Int} (hs : 0 < s) : ∀ {l : List Int}, Dig s l → 0 ≤ valL s l ∧ valL s l < s ^ l.length
  | [], _ => ⟨Int.le_refl _, by simp [valL]⟩
  | f :: l, h => by
    obtain ⟨h1, h2⟩ := valL_bd hs (l := l) fun x hx => h x (List.mem_cons_of_mem _ hx)
    obtain ⟨f1, f2⟩ := h f (List.mem_cons_self ..)
    rw [valL, List.length_cons, Int.pow_succ]
    have a : 0 ≤ s * valL s l := Int.mul_nonneg (by omega) h1
    have b : s * valL s l ≤ s * (s ^ l.length - 1) := Int.mul_le_mul_of_nonneg_left (by omega) (by omega)
    rw [Int.mul_sub, Int.mul_one, Int.mul_comm s (s ^ l.length)] at b
    omega
theorem figs_dig {s : Int} {ps : List Pc} (h : ∀ p ∈ ps, GoodP s p) : Dig s (figs ps) := by
  intro f hf
  unfold figs at hf
  obtain ⟨l, hl, hf⟩ := List.mem_flatten.mp hf
  obtain ⟨p, hp, rfl⟩ := List.mem_map.mp hl
  unfold expd at hf
  obtain ⟨w, hw, hf⟩ := List.mem_flatten.mp hf
  rw [(List.mem_replicate.mp hw).2] at hf
  exact (h p hp).fg f hf
theorem bd_pow {s : Int} (h1 : 0 ≤ s) (h2 : s ≤ 10) (k : Nat) : Bd (4 * k + 1) (s ^ k) := by
  unfold Bd
  have e : (s ^ k).natAbs = s.natAbs ^ k := Int.natAbs_pow s k
  rw [e, Nat.pow_succ, Nat.pow_mul]
  have : s.natAbs ^ k ≤ (2 ^ 4) ^ k := Nat.pow_le_pow_left (by omega) k
  have := Nat.two_pow_pos (4 * k)
  rw [Nat.pow_mul] at this
  omega
theorem bd_lt {a : Nat} {i j : Int} (h : Bd a j) (h1 : 0 ≤ i) (h2 : i < j) : Bd a i := by unfold Bd at *; omega
theorem rep_map (k : Nat) (w : List Int) : (List.replicate k (w.map D.int)).flatten = (rep k w).map D.int := by
  unfold rep
  rw [List.map_flatten, List.map_replicate]
theorem rep_expd (p : Pc) : rep p.2 p.1 = expd p := rfl
theorem le_sum {a : Nat} : ∀ {l : List Nat}, a ∈ l → a ≤ l.sum
  | x :: l, h => by
    rw [List.sum_cons]
    rcases List.mem_cons.mp h with rfl | h
    · omega
    · have := le_sum h
      omega
theorem mulT_ok (a : List D) (j : Int) (st : Sto) (h : -1000 ≤ j ∧ j ≤ 1000 ∧ a.length ≤ 1000) : oMulT (.d (.tup a)) (.d (.int j)) st = .ok (.d (.tup (List.replicate j.toNat a).flatten)) st := if_pos h
theorem p_plain {s g : Int} {ps : List Pc} (h : GN s g ps) (hn : nfig ps ≤ 1000) (st : Sto) : pureF m_GreatNumber_plain [.d (gnD s g ps)] st = .ok (.d (.int (g * valL s (figs ps)))) st := by
  refine pureF_d (st1 := []) rfl ?_
  have hs := h.s1
  have hs2 := h.s2
  have pcle : ∀ p ∈ ps, pcN p ≤ 1000 := fun p hp => by
    have : pcN p ≤ nfig ps := by
      unfold nfig
      exact le_sum (List.mem_map_of_mem hp)
    omega
  have o := mFor_pre (mi := mItS (mFld "own_pieces" (mVar 0))) (tg := gT 2 (gsC (gN 3) (gsC (gN 4) gsN))) (b := lf1_GreatNumber_plain) (g := fun (p : Pc) => Va.d (pcD p))
    (S := fun (l : List Pc) ρ st => st = [] ∧ ∃ a c d, ρ = [some (.d (gnD s g ps)), some (.d (.int (valL s (figs l)))), some (.d (.int (s ^ (figs l).length))), a, c, d]) ps (ρ := [some (.d (gnD s g ps)), some (.d (.int 0)), some (.d (.int 1)), none, none, none]) (st := []) (st0 := [])
    (by rw [itS_tup (xs := ps.map pcD) (st1 := []) (by simp only [mFun_eq', mSeq_eq, mIfS, mRet, mRetN, mAsg, mPar, mExpr, mSkip, mBrk, mCnt, mBad, mRaise, outE_ok, outT_ok, outE_er, seqO_nx, seqO_rt, seqO_er, retO_rt, retO_nx, retO_er, Res.bind_ok, Res.bind_er, Res.bind_bad, mVar_0, mVar_s, mVarI_0, mVarI_s, strip_ref, strip_non, strip_bl, strip_int, strip_str, strip_lst, strip_tup, strip_obj, strip_lck, strip_idn, mC, mBin, mUn, mTst, mCB, mCons, mNil, mStar, mAnd, mOr, mAndT, mOrT, mNotT, mIf, mTru, truV, mTup, mLst, ds?, ds?_map, mCall, withD, mFld, getF_o, getF_r, oNeg, oNot, oAbs, oMax, oMin, oI1, oI2, oInt, add_ii, sub_ii, lt_ii, le_ii, gt_ii, ge_ii, eq_ii, ne_ii, gN, gT_tup, gL_lst, gsC_cons, gsN_nil, List.map_cons, List.map_nil, List.length_cons, List.length_nil, List.cons_append, List.nil_append, List.append_nil, List.replicate_zero, List.replicate_succ, List.set_cons_zero, List.set_cons_succ, List.zip_cons_cons, List.zip_nil_right, List.foldl_cons, List.foldl_nil, Option.map_some, Option.map_none, Option.bind_some, Nat.reduceAdd, Nat.reduceSub, Nat.reduceEqDiff, Nat.reduceLT, Nat.reduceLeDiff, String.reduceEq, reduceCtorEq, Int.reduceLT, Int.reduceLE, Int.reduceEq, Int.reduceAdd, Int.reduceSub, Int.reduceNeg, Int.reduceMul, String.reduceBEq, decide_true, decide_false, if_true, if_false, ite_true, ite_false, Bool.false_eq_true, Bool.not_true, Bool.not_false, Bool.true_and, Bool.false_and, Bool.and_true, Bool.and_false, Bool.true_or, Bool.false_or, Bool.or_true, Bool.or_false, strip_gn, pcs_gn]), List.map_map]; rfl) ⟨rfl, none, none, none, by simp [figs, valL]⟩ fun l1 p l2 e ρ st hs => by
      obtain ⟨rfl, a, c, d, rfl⟩ := hs
      have hp : p ∈ ps := by rw [e]; simp
      have gp := h.gd.pc p hp
      have pl := pcle p hp
      have lt : (figs l1).length + (expd p).length ≤ 1000 := by
        rw [figs_len, expd_len]
        rw [e] at hn
        unfold nfig at hn ⊢
        rw [List.map_append, List.sum_append, List.map_cons, List.sum_cons] at hn
        omega
      have t1000 : p.2 ≤ 1000 := by
        unfold pcN at pl
        have : 1 * p.2 ≤ p.1.length * p.2 := Nat.mul_le_mul_right _ gp.l1
        omega
      have mt : oMulT (.d (.tup (p.1.map .int))) (.d (.int p.2)) [] = .ok (.d (.tup ((expd p).map .int))) [] := by
        rw [mulT_ok _ _ _ ⟨by omega, by omega, by rw [List.length_map]; have := gp.l2; omega⟩, Int.toNat_natCast, rep_map, rep_expd]
      have inner := mFor_pre (mi := mItS (mBin oMulT (mVar 3) (mVar 4))) (tg := gN 5) (b := lf0_GreatNumber_plain) (g := fun (f : Int) => Va.d (.int f))
        (S := fun (l : List Int) ρ st => st = [] ∧ ∃ d, ρ = [some (.d (gnD s g ps)), some (.d (.int (valL s (figs l1 ++ l)))), some (.d (.int (s ^ (figs l1 ++ l).length))), some (.d (.tup (p.1.map .int))), some (.d (.int p.2)), d]) (expd p)
        (ρ := [some (.d (gnD s g ps)), some (.d (.int (valL s (figs l1)))), some (.d (.int (s ^ (figs l1).length))), some (.d (.tup (p.1.map .int))), some (.d (.int p.2)), d]) (st := []) (st0 := [])
        (by rw [itS_tup (xs := (expd p).map .int) (st1 := []) (by simp only [mFun_eq', mSeq_eq, mIfS, mRet, mRetN, mAsg, mPar, mExpr, mSkip, mBrk, mCnt, mBad, mRaise, outE_ok, outT_ok, outE_er, seqO_nx, seqO_rt, seqO_er, retO_rt, retO_nx, retO_er, Res.bind_ok, Res.bind_er, Res.bind_bad, mVar_0, mVar_s, mVarI_0, mVarI_s, strip_ref, strip_non, strip_bl, strip_int, strip_str, strip_lst, strip_tup, strip_obj, strip_lck, strip_idn, mC, mBin, mUn, mTst, mCB, mCons, mNil, mStar, mAnd, mOr, mAndT, mOrT, mNotT, mIf, mTru, truV, mTup, mLst, ds?, ds?_map, mCall, withD, mFld, getF_o, getF_r, oNeg, oNot, oAbs, oMax, oMin, oI1, oI2, oInt, add_ii, sub_ii, lt_ii, le_ii, gt_ii, ge_ii, eq_ii, ne_ii, gN, gT_tup, gL_lst, gsC_cons, gsN_nil, List.map_cons, List.map_nil, List.length_cons, List.length_nil, List.cons_append, List.nil_append, List.append_nil, List.replicate_zero, List.replicate_succ, List.set_cons_zero, List.set_cons_succ, List.zip_cons_cons, List.zip_nil_right, List.foldl_cons, List.foldl_nil, Option.map_some, Option.map_none, Option.bind_some, Nat.reduceAdd, Nat.reduceSub, Nat.reduceEqDiff, Nat.reduceLT, Nat.reduceLeDiff, String.reduceEq, reduceCtorEq, Int.reduceLT, Int.reduceLE, Int.reduceEq, Int.reduceAdd, Int.reduceSub, Int.reduceNeg, Int.reduceMul, String.reduceBEq, decide_true, decide_false, if_true, if_false, ite_true, ite_false, Bool.false_eq_true, Bool.not_true, Bool.not_false, Bool.true_and, Bool.false_and, Bool.and_true, Bool.and_false, Bool.true_or, Bool.false_or, Bool.or_true, Bool.or_false, mt]), List.map_map]; rfl) ⟨rfl, d, by rw [List.append_nil]⟩ fun k1 f k2 e2 ρ st hs => by
          obtain ⟨rfl, d, rfl⟩ := hs
          have hf : f ∈ figs ps := by
            unfold figs
            exact List.mem_flatten.mpr ⟨expd p, List.mem_map_of_mem hp, by rw [e2]; simp⟩
          obtain ⟨f1, f2⟩ := figs_dig h.gd.pc f hf
          have lk : (figs l1 ++ k1).length ≤ 1000 := by
            rw [e2] at lt
            simp only [List.length_append, List.length_cons] at lt ⊢
            omega
          have fb : Bd 4 f := by unfold Bd; omega
          have pb := bd_pow (by omega) hs2 (figs l1 ++ k1).length
          have m1 := mul_ok (i := f) (j := s ^ (figs l1 ++ k1).length) [] (fb.cmul pb (by omega))
          have m2 := mul_ok (i := s ^ (figs l1 ++ k1).length) (j := s) [] (pb.cmul (show Bd 4 s by unfold Bd; omega) (by omega))
          have v1 : valL s (figs l1 ++ k1) + f * s ^ (figs l1 ++ k1).length = valL s (figs l1 ++ (k1 ++ [f])) := by
            rw [← List.append_assoc, valL_app s (figs l1 ++ k1) [f], show valL s [f] = f by simp [valL], Int.mul_comm]
          have v2 : s ^ (figs l1 ++ k1).length * s = s ^ (figs l1 ++ (k1 ++ [f])).length := by
            rw [← List.append_assoc, List.length_append (as := figs l1 ++ k1), List.length_singleton, Int.pow_succ]
          refine ⟨_, [some (.d (gnD s g ps)), some (.d (.int (valL s (figs l1 ++ (k1 ++ [f]))))), some (.d (.int (s ^ (figs l1 ++ (k1 ++ [f])).length))), some (.d (.tup (p.1.map .int))), some (.d (.int p.2)), some (.d (.int f))], [], rfl, ?_, rfl, _, rfl⟩
          simp only [mFun_eq', mSeq_eq, mIfS, mRet, mRetN, mAsg, mPar, mExpr, mSkip, mBrk, mCnt, mBad, mRaise, outE_ok, outT_ok, outE_er, seqO_nx, seqO_rt, seqO_er, retO_rt, retO_nx, retO_er, Res.bind_ok, Res.bind_er, Res.bind_bad, mVar_0, mVar_s, mVarI_0, mVarI_s, strip_ref, strip_non, strip_bl, strip_int, strip_str, strip_lst, strip_tup, strip_obj, strip_lck, strip_idn, mC, mBin, mUn, mTst, mCB, mCons, mNil, mStar, mAnd, mOr, mAndT, mOrT, mNotT, mIf, mTru, truV, mTup, mLst, ds?, ds?_map, mCall, withD, mFld, getF_o, getF_r, oNeg, oNot, oAbs, oMax, oMin, oI1, oI2, oInt, add_ii, sub_ii, lt_ii, le_ii, gt_ii, ge_ii, eq_ii, ne_ii, gN, gT_tup, gL_lst, gsC_cons, gsN_nil, List.map_cons, List.map_nil, List.length_cons, List.length_nil, List.cons_append, List.nil_append, List.append_nil, List.replicate_zero, List.replicate_succ, List.set_cons_zero, List.set_cons_succ, List.zip_cons_cons, List.zip_nil_right, List.foldl_cons, List.foldl_nil, Option.map_some, Option.map_none, Option.bind_some, Nat.reduceAdd, Nat.reduceSub, Nat.reduceEqDiff, Nat.reduceLT, Nat.reduceLeDiff, String.reduceEq, reduceCtorEq, Int.reduceLT, Int.reduceLE, Int.reduceEq, Int.reduceAdd, Int.reduceSub, Int.reduceNeg, Int.reduceMul, String.reduceBEq, decide_true, decide_false, if_true, if_false, ite_true, ite_false, Bool.false_eq_true, Bool.not_true, Bool.not_false, Bool.true_and, Bool.false_and, Bool.and_true, Bool.and_false, Bool.true_or, Bool.false_or, Bool.or_true, Bool.or_false, lf0_GreatNumber_plain, strip_gn, size_gn, m1, m2, v1, v2]
      obtain ⟨ρ2, st2, i1, rfl, d2, rfl⟩ := inner
      have e1 : figs (l1 ++ [p]) = figs l1 ++ expd p := by rw [figs_app]; simp [figs]
      exact ⟨[some (.d (gnD s g ps)), some (.d (.int (valL s (figs l1)))), some (.d (.int (s ^ (figs l1).length))), some (.d (.tup (p.1.map .int))), some (.d (.int p.2)), d], _, [], rfl, i1, rfl, _, _, _, by rw [e1]⟩
  obtain ⟨ρ1, st1, h1, rfl, a, c, d, rfl⟩ := o
  have fg := p_figures (g := g) h.gd.pc h.gd.n []
  have dn : decide ((1000 : Int) < (nfig ps : Nat)) = false := decide_eq_false (by omega)
  have vb := valL_bd (s := s) (by omega) (figs_dig h.gd.pc)
  have mu := mul_ok (i := g) (j := valL s (figs ps)) [] ((show Bd 4 g by unfold Bd; have := h.sg; omega).cmul (bd_lt (bd_pow (by omega) hs2 _) vb.1 vb.2) (by rw [figs_len]; omega))
  have c2 : (2 ≤ cap) = True := eq_true (by decide)
  unfold m_GreatNumber_plain
  simp only [mFun_eq', mSeq_eq, mIfS, mRet, mRetN, mAsg, mPar, mExpr, mSkip, mBrk, mCnt, mBad, mRaise, outE_ok, outT_ok, outE_er, seqO_nx, seqO_rt, seqO_er, retO_rt, retO_nx, retO_er, Res.bind_ok, Res.bind_er, Res.bind_bad, mVar_0, mVar_s, mVarI_0, mVarI_s, strip_ref, strip_non, strip_bl, strip_int, strip_str, strip_lst, strip_tup, strip_obj, strip_lck, strip_idn, mC, mBin, mUn, mTst, mCB, mCons, mNil, mStar, mAnd, mOr, mAndT, mOrT, mNotT, mIf, mTru, truV, mTup, mLst, ds?, ds?_map, mCall, withD, mFld, getF_o, getF_r, oNeg, oNot, oAbs, oMax, oMin, oI1, oI2, oInt, add_ii, sub_ii, lt_ii, le_ii, gt_ii, ge_ii, eq_ii, ne_ii, gN, gT_tup, gL_lst, gsC_cons, gsN_nil, List.map_cons, List.map_nil, List.length_cons, List.length_nil, List.cons_append, List.nil_append, List.append_nil, List.replicate_zero, List.replicate_succ, List.set_cons_zero, List.set_cons_succ, List.zip_cons_cons, List.zip_nil_right, List.foldl_cons, List.foldl_nil, Option.map_some, Option.map_none, Option.bind_some, Nat.reduceAdd, Nat.reduceSub, Nat.reduceEqDiff, Nat.reduceLT, Nat.reduceLeDiff, String.reduceEq, reduceCtorEq, Int.reduceLT, Int.reduceLE, Int.reduceEq, Int.reduceAdd, Int.reduceSub, Int.reduceNeg, Int.reduceMul, String.reduceBEq, decide_true, decide_false, if_true, if_false, ite_true, ite_false, Bool.false_eq_true, Bool.not_true, Bool.not_false, Bool.true_and, Bool.false_and, Bool.and_true, Bool.and_false, Bool.true_or, Bool.false_or, Bool.or_true, Bool.or_false, strip_gn, mProp, noEr, obj_gn, fg, dn, c2, h1, sign_gn, mu]

/-! P53e: two numbers beside one another, from the highest figure on -/
theorem forM_find {α : Type} {g : α → Va} {tg : MG} {b : MS} (Gd : Ev → Prop) (bad : α → Bool) (r : α → Va) (hb : ∀ x ρ, Gd ρ → ∃ ρ1, tg (g x) ρ = some ρ1 ∧ (bad x = true → b ρ1 [] = .rt (r x) []) ∧ (bad x = false → ∃ ρ2, b ρ1 [] = .nx ρ2 [] ∧ Gd ρ2)) :
    ∀ (l : List α) (ρ : Ev), Gd ρ → (∃ x, l.find? bad = some x ∧ forM none tg b (l.map g) ρ [] = .rt (r x) []) ∨ (l.find? bad = none ∧ ∃ ρ1, forM none tg b (l.map g) ρ [] = .nx ρ1 [] ∧ Gd ρ1)
  | [], ρ, h => .inr ⟨rfl, ρ, forM_nil' .., h⟩
  | x :: l, ρ, h => by
    obtain ⟨ρ1, h1, h2, h3⟩ := hb x ρ h
    cases q : bad x with
    | true =>
      refine .inl ⟨x, by rw [List.find?_cons, q], ?_⟩
      rw [List.map_cons, forM_cons', h1]
      simp only [h2 q, loopO_rt]
    | false =>
      obtain ⟨ρ2, h4, h5⟩ := h3 q
      rcases forM_find Gd bad r hb l ρ2 h5 with ⟨y, h6, h7⟩ | ⟨h6, ρ3, h7, h8⟩
      · refine .inl ⟨y, by rw [List.find?_cons, q]; exact h6, ?_⟩
        rw [List.map_cons, forM_cons', h1]
        simp only [h4, loopO_nx, h7]
      · refine .inr ⟨by rw [List.find?_cons, q]; exact h6, ρ3, ?_, h8⟩
        rw [List.map_cons, forM_cons', h1]
        simp only [h4, loopO_nx, h7]
theorem mWhile_two {c : MT} {b : MS} {I : Nat → Ev → Sto → Prop} {Q : Ev → Sto → Prop} {R : Va → Sto → Prop} (h0 : ∀ n ρ st, I n ρ st → (c ρ st = .ok false st ∧ Q ρ st) ∨ (∃ st1, c ρ st = .ok true st1 ∧ ((∃ ρ2 st2 m, b ρ st1 = .nx ρ2 st2 ∧ m < n ∧ I m ρ2 st2) ∨ ∃ v st2, b ρ st1 = .rt v st2 ∧ R v st2))) :
    ∀ {n : Nat} {ρ : Ev} {st : Sto}, I n ρ st → (∃ ρ1 st1, mWhile c b ρ st = .nx ρ1 st1 ∧ Q ρ1 st1) ∨ ∃ v st1, mWhile c b ρ st = .rt v st1 ∧ R v st1 := by
  intro n
  induction n using Nat.strongRecOn with
  | _ n ih =>
    intro ρ st hi
    rw [mWhile_step]
    rcases h0 n ρ st hi with ⟨h1, h2⟩ | ⟨st1, h1, ⟨ρ2, st2, m, h2, h3, h4⟩ | ⟨v, st2, h2, h3⟩⟩
    · rw [h1]
      exact .inl ⟨ρ, st, rfl, h2⟩
    · rw [h1]
      rw [outT_ok]
      simp only [if_true, h2]
      exact ih m h3 h4
    · rw [h1]
      rw [outT_ok]
      simp only [if_true, h2]
      exact .inr ⟨v, st2, rfl, h3⟩
/-- the figure at a depth of a rest, counted from the highest one -/
def fa (p : Pc) (r : Nat) (d : Nat) : Int := p.1.getD ((((r : Int) - 1 - (d : Int)) % (p.1.length : Int)).toNat) 0
theorem fa_per (p : Pc) (r d : Nat) : fa p r (d + p.1.length) = fa p r d := by
  unfold fa
  rw [show ((r : Int) - 1 - ((d + p.1.length : Nat) : Int)) = ((r : Int) - 1 - (d : Int)) - (p.1.length : Int) by omega, Int.sub_emod_right]
theorem fa_rest (p : Pc) (r k d : Nat) (h : k ≤ r) : fa p r (k + d) = fa p (r - k) d := by
  unfold fa
  rw [show ((r : Int) - 1 - ((k + d : Nat) : Int)) = (((r - k : Nat) : Int) - 1 - (d : Int)) by omega]
/-- two rings that agree over both lengths agree everywhere -/
theorem rings {A B : Nat → Int} {p q : Nat} (p0 : 0 < p) (q0 : 0 < q) (hp : ∀ d, A (d + p) = A d) (hq : ∀ d, B (d + q) = B d) (h : ∀ d, d < p + q → A d = B d) : ∀ d, A d = B d := by
  intro d
  induction d using Nat.strongRecOn with
  | _ d ih =>
    by_cases hd : d < p + q
    · exact h d hd
    · have e1 := hp (d - p)
      have e2 := hq (d - p - q)
      have e3 := hp (d - p - q)
      have e4 := hq (d - q)
      rw [show d - p + p = d by omega] at e1
      rw [show d - p - q + q = d - p by omega] at e2
      rw [show d - p - q + p = d - q by omega] at e3
      rw [show d - q + q = d by omega] at e4
      rw [e1, ih (d - p) (by omega), e2, ← ih (d - p - q) (by omega), ← e3, ih (d - q) (by omega), e4]
def cmpL : List Int → List Int → Int
  | x :: xs, y :: ys => if x = y then cmpL xs ys else if y < x then 1 else -1
  | _, _ => 0
theorem cmpL_app (a : List Int) : ∀ (x y : List Int), cmpL (a ++ x) (a ++ y) = cmpL x y := by
  induction a with
  | nil => intro x y; rfl
  | cons f a ih => intro x y; rw [List.cons_append, List.cons_append, cmpL, if_pos rfl, ih]
/-- the first place at which two sequences differ -/
theorem cmpL_first {A B : Nat → Int} {n k : Nat} (hk : k < n) (x y : List Int) (h : ∀ d, d < k → A d = B d) (hne : A k ≠ B k) : cmpL ((List.range n).map A ++ x) ((List.range n).map B ++ y) = if B k < A k then 1 else -1 := by
  obtain ⟨m, rfl⟩ : ∃ m, n = k + (m + 1) := ⟨n - k - 1, by omega⟩
  have e : ∀ F : Nat → Int, (List.range (k + (m + 1))).map F = (List.range k).map F ++ F k :: (List.range m).map fun d => F (k + (d + 1)) := fun F => by
    rw [List.range_add, List.map_append, List.range_succ_eq_map]
    simp [Function.comp_def]
  rw [e A, e B, show (List.range k).map B = (List.range k).map A from List.map_congr_left fun d hd => (h d (List.mem_range.mp hd)).symm, List.append_assoc, List.append_assoc, cmpL_app, List.cons_append, List.cons_append, cmpL, if_neg hne]
def segR (p : Pc) (r : Nat) : List Int := (List.range r).map (fa p r)
def fullR (L : List Pc) : List Int := (L.map fun p => segR p (pcN p)).flatten
/-- what is left, from the highest figure on -/
def seqR : List Pc → Nat → List Int
  | [], _ => []
  | p :: L, r => segR p (if r = 0 then pcN p else r) ++ fullR L
theorem seqR0 (L : List Pc) : seqR L 0 = fullR L := by
  cases L with
  | nil => rfl
  | cons p L => simp [seqR, fullR]
theorem segR_len (p : Pc) (r : Nat) : (segR p r).length = r := by simp [segR]
theorem segR_split (p : Pc) (r k : Nat) (h : k ≤ r) : segR p r = (List.range k).map (fa p r) ++ segR p (r - k) := by
  unfold segR
  obtain ⟨m, rfl⟩ : ∃ m, r = k + m := ⟨r - k, by omega⟩
  rw [List.range_add, List.map_append, List.map_map, show k + m - k = m by omega]
  congr 1
  apply List.map_congr_left
  intro d _
  show fa p (k + m) (k + d) = _
  rw [fa_rest p (k + m) k d (by omega), show k + m - k = m by omega]
theorem p_figure {p : Pc} {s : Int} (h : GoodP s p) (r d : Nat) (st : Sto) : pureF m_figure_at [.d (pcD p), .d (.int r), .d (.int d)] st = .ok (.d (.int (fa p r d))) st := by
  refine pureF_d (st1 := []) rfl ?_
  have i0 : oIx (.d (pcD p)) (.d (.int 0)) [] = .ok (.d (.tup (p.1.map .int))) [] := rfl
  have lp : (0 : Int) < p.1.length := by have := h.l1; omega
  have m1 := md_e (i := (r : Int) - 1 - d) (m := p.1.length) lp []
  have b1 := Int.emod_nonneg ((r : Int) - 1 - d) (show (p.1.length : Int) ≠ 0 by omega)
  have b2 := Int.emod_lt_of_pos ((r : Int) - 1 - d) lp
  have ix : oIx (.d (.tup (p.1.map .int))) (.d (.int (((r : Int) - 1 - d) % p.1.length))) [] = .ok (.d (.int (fa p r d))) [] := by
    refine ix_tup _ _ _ _ ?_
    have hk : (((r : Int) - 1 - d) % p.1.length).toNat < p.1.length := by omega
    rw [show (((r : Int) - 1 - d) % p.1.length) = (((((r : Int) - 1 - d) % p.1.length).toNat : Nat) : Int) by omega]
    refine atI_nat _ _ _ ?_
    rw [List.getElem?_map, List.getElem?_eq_getElem hk]
    unfold fa
    rw [List.getD_eq_getElem?_getD, List.getElem?_eq_getElem hk]
    rfl
  unfold m_figure_at
  simp only [mFun_eq', mSeq_eq, mIfS, mRet, mRetN, mAsg, mPar, mExpr, mSkip, mBrk, mCnt, mBad, mRaise, outE_ok, outT_ok, outE_er, seqO_nx, seqO_rt, seqO_er, retO_rt, retO_nx, retO_er, Res.bind_ok, Res.bind_er, Res.bind_bad, mVar_0, mVar_s, mVarI_0, mVarI_s, strip_ref, strip_non, strip_bl, strip_int, strip_str, strip_lst, strip_tup, strip_obj, strip_lck, strip_idn, mC, mBin, mUn, mTst, mCB, mCons, mNil, mStar, mAnd, mOr, mAndT, mOrT, mNotT, mIf, mTru, truV, mTup, mLst, ds?, ds?_map, mCall, withD, mFld, getF_o, getF_r, oNeg, oNot, oAbs, oMax, oMin, oI1, oI2, oInt, add_ii, sub_ii, lt_ii, le_ii, gt_ii, ge_ii, eq_ii, ne_ii, gN, gT_tup, gL_lst, gsC_cons, gsN_nil, List.map_cons, List.map_nil, List.length_cons, List.length_nil, List.cons_append, List.nil_append, List.append_nil, List.replicate_zero, List.replicate_succ, List.set_cons_zero, List.set_cons_succ, List.zip_cons_cons, List.zip_nil_right, List.foldl_cons, List.foldl_nil, Option.map_some, Option.map_none, Option.bind_some, Nat.reduceAdd, Nat.reduceSub, Nat.reduceEqDiff, Nat.reduceLT, Nat.reduceLeDiff, String.reduceEq, reduceCtorEq, Int.reduceLT, Int.reduceLE, Int.reduceEq, Int.reduceAdd, Int.reduceSub, Int.reduceNeg, Int.reduceMul, String.reduceBEq, decide_true, decide_false, if_true, if_false, ite_true, ite_false, Bool.false_eq_true, Bool.not_true, Bool.not_false, Bool.true_and, Bool.false_and, Bool.and_true, Bool.and_false, Bool.true_or, Bool.false_or, Bool.or_true, Bool.or_false, strip_pc, i0, len_tup, List.length_map, m1, ix]
abbrev cE (x0 x1 : Option Va) (A B : List Pc) (l r m t : Int) (e f d h k : Option Va) : Ev := [x0, x1, some (.d (.lst (A.map pcD))), some (.d (.lst (B.map pcD))), some (.d (.int l)), some (.d (.int r)), some (.d (.int m)), some (.d (.int t)), e, f, d, h, k]
theorem drop_at {α : Type} {l : List α} {i : Nat} {x : α} {r : List α} (h : l.drop i = x :: r) : l[i]? = some x ∧ l.drop (i + 1) = r ∧ i < l.length := by
  have h1 : (l.drop i)[0]? = some x := by rw [h]; rfl
  rw [List.getElem?_drop, Nat.add_zero] at h1
  refine ⟨h1, ?_, (List.getElem?_eq_some_iff.mp h1).1⟩
  have := congrArg List.tail h
  rw [List.tail_drop] at this
  exact this
theorem ix_pc {A : List Pc} {i : Nat} {p : Pc} (h : A[i]? = some p) (st : Sto) : oIx (.d (.lst (A.map pcD))) (.d (.int i)) st = .ok (.d (pcD p)) st := ix_lst _ _ _ _ (atI_nat _ _ _ (by rw [List.getElem?_map, h]; rfl))
def upN (l : Nat) (p : Pc) : Nat := if l = 0 then pcN p else l
/-- one turn of the outer loop -/
theorem turn_ok {s : Int} {A B : List Pc} {i j l r : Nat} {p q : Pc} {L M : List Pc} (hA : ∀ p ∈ A, GoodP s p) (hB : ∀ p ∈ B, GoodP s p) (h1 : A.drop i = p :: L) (h2 : B.drop j = q :: M) (x0 x1 e f d h k : Option Va) :
    (∃ st1, lw1_compared (cE x0 x1 A B l r i j e f d h k) [] = .rt (.d (.int (cmpL (seqR (p :: L) l) (seqR (q :: M) r)))) st1) ∨
    (∃ (b : Nat) (e' f' d' h' k' : Option Va), b = min (upN l p) (upN r q) ∧ lw1_compared (cE x0 x1 A B l r i j e f d h k) [] = .nx (cE x0 x1 A B ((upN l p - b : Nat) : Int) ((upN r q - b : Nat) : Int) ((if upN l p - b = 0 then i + 1 else i : Nat) : Int) ((if upN r q - b = 0 then j + 1 else j : Nat) : Int) e' f' d' h' k') [] ∧
      ∀ d, d < b → fa p (upN l p) d = fa q (upN r q) d) := by
  obtain ⟨a1, a2, a3⟩ := drop_at h1
  obtain ⟨b1, b2, b3⟩ := drop_at h2
  have gp := hA p (List.mem_of_getElem? a1)
  have gq := hB q (List.mem_of_getElem? b1)
  have ip := ix_pc a1 []
  have iq := ix_pc b1 []
  have p0 : oIx (.d (pcD p)) (.d (.int 0)) [] = .ok (.d (.tup (p.1.map .int))) [] := rfl
  have p1 : oIx (.d (pcD p)) (.d (.int 1)) [] = .ok (.d (.int p.2)) [] := rfl
  have q0 : oIx (.d (pcD q)) (.d (.int 0)) [] = .ok (.d (.tup (q.1.map .int))) [] := rfl
  have q1 : oIx (.d (pcD q)) (.d (.int 1)) [] = .ok (.d (.int q.2)) [] := rfl
  have mp := mul_ok (i := (p.1.length : Int)) (j := (p.2 : Int)) [] (pc_mul gp)
  have mq := mul_ok (i := (q.1.length : Int)) (j := (q.2 : Int)) [] (pc_mul gq)
  have ep : (p.1.length : Int) * (p.2 : Int) = ((pcN p : Nat) : Int) := by unfold pcN; rw [Int.natCast_mul]
  have eq : (q.1.length : Int) * (q.2 : Int) = ((pcN q : Nat) : Int) := by unfold pcN; rw [Int.natCast_mul]
  have s1 : mIfS (mTst (mBin oEq (mVar 4) (mC (.int 0)))) (mAsg (mBin oMul (mCB oLen (mCons (mBin oIx (mBin oIx (mVar 2) (mVar 6)) (mC (.int 0))) mNil)) (mBin oIx (mBin oIx (mVar 2) (mVar 6)) (mC (.int 1)))) (gN 4)) mSkip (cE x0 x1 A B l r i j e f d h k) [] = .nx (cE x0 x1 A B (upN l p : Nat) r i j e f d h k) [] := by
    unfold upN
    by_cases z : l = 0
    · have dz : decide ((l : Int) = 0) = true := decide_eq_true (by omega)
      rw [if_pos z]
      simp only [mFun_eq', mSeq_eq, mIfS, mRet, mRetN, mAsg, mPar, mExpr, mSkip, mBrk, mCnt, mBad, mRaise, outE_ok, outT_ok, outE_er, seqO_nx, seqO_rt, seqO_er, retO_rt, retO_nx, retO_er, Res.bind_ok, Res.bind_er, Res.bind_bad, mVar_0, mVar_s, mVarI_0, mVarI_s, strip_ref, strip_non, strip_bl, strip_int, strip_str, strip_lst, strip_tup, strip_obj, strip_lck, strip_idn, mC, mBin, mUn, mTst, mCB, mCons, mNil, mStar, mAnd, mOr, mAndT, mOrT, mNotT, mIf, mTru, truV, mTup, mLst, ds?, ds?_map, mCall, withD, mFld, getF_o, getF_r, oNeg, oNot, oAbs, oMax, oMin, oI1, oI2, oInt, add_ii, sub_ii, lt_ii, le_ii, gt_ii, ge_ii, eq_ii, ne_ii, gN, gT_tup, gL_lst, gsC_cons, gsN_nil, List.map_cons, List.map_nil, List.length_cons, List.length_nil, List.cons_append, List.nil_append, List.append_nil, List.replicate_zero, List.replicate_succ, List.set_cons_zero, List.set_cons_succ, List.zip_cons_cons, List.zip_nil_right, List.foldl_cons, List.foldl_nil, Option.map_some, Option.map_none, Option.bind_some, Nat.reduceAdd, Nat.reduceSub, Nat.reduceEqDiff, Nat.reduceLT, Nat.reduceLeDiff, String.reduceEq, reduceCtorEq, Int.reduceLT, Int.reduceLE, Int.reduceEq, Int.reduceAdd, Int.reduceSub, Int.reduceNeg, Int.reduceMul, String.reduceBEq, decide_true, decide_false, if_true, if_false, ite_true, ite_false, Bool.false_eq_true, Bool.not_true, Bool.not_false, Bool.true_and, Bool.false_and, Bool.and_true, Bool.and_false, Bool.true_or, Bool.false_or, Bool.or_true, Bool.or_false, cE, dz, ip, strip_pc, p0, p1, len_tup, List.length_map, mp, ep]
    · have dz : decide ((l : Int) = 0) = false := decide_eq_false (by omega)
      simp only [mFun_eq', mSeq_eq, mIfS, mRet, mRetN, mAsg, mPar, mExpr, mSkip, mBrk, mCnt, mBad, mRaise, outE_ok, outT_ok, outE_er, seqO_nx, seqO_rt, seqO_er, retO_rt, retO_nx, retO_er, Res.bind_ok, Res.bind_er, Res.bind_bad, mVar_0, mVar_s, mVarI_0, mVarI_s, strip_ref, strip_non, strip_bl, strip_int, strip_str, strip_lst, strip_tup, strip_obj, strip_lck, strip_idn, mC, mBin, mUn, mTst, mCB, mCons, mNil, mStar, mAnd, mOr, mAndT, mOrT, mNotT, mIf, mTru, truV, mTup, mLst, ds?, ds?_map, mCall, withD, mFld, getF_o, getF_r, oNeg, oNot, oAbs, oMax, oMin, oI1, oI2, oInt, add_ii, sub_ii, lt_ii, le_ii, gt_ii, ge_ii, eq_ii, ne_ii, gN, gT_tup, gL_lst, gsC_cons, gsN_nil, List.map_cons, List.map_nil, List.length_cons, List.length_nil, List.cons_append, List.nil_append, List.append_nil, List.replicate_zero, List.replicate_succ, List.set_cons_zero, List.set_cons_succ, List.zip_cons_cons, List.zip_nil_right, List.foldl_cons, List.foldl_nil, Option.map_some, Option.map_none, Option.bind_some, Nat.reduceAdd, Nat.reduceSub, Nat.reduceEqDiff, Nat.reduceLT, Nat.reduceLeDiff, String.reduceEq, reduceCtorEq, Int.reduceLT, Int.reduceLE, Int.reduceEq, Int.reduceAdd, Int.reduceSub, Int.reduceNeg, Int.reduceMul, String.reduceBEq, decide_true, decide_false, if_true, if_false, ite_true, ite_false, Bool.false_eq_true, Bool.not_true, Bool.not_false, Bool.true_and, Bool.false_and, Bool.and_true, Bool.and_false, Bool.true_or, Bool.false_or, Bool.or_true, Bool.or_false, cE, dz, z]
  have s2 : mIfS (mTst (mBin oEq (mVar 5) (mC (.int 0)))) (mAsg (mBin oMul (mCB oLen (mCons (mBin oIx (mBin oIx (mVar 3) (mVar 7)) (mC (.int 0))) mNil)) (mBin oIx (mBin oIx (mVar 3) (mVar 7)) (mC (.int 1)))) (gN 5)) mSkip (cE x0 x1 A B (upN l p : Nat) r i j e f d h k) [] = .nx (cE x0 x1 A B (upN l p : Nat) (upN r q : Nat) i j e f d h k) [] := by
    generalize upN l p = l'
    unfold upN
    by_cases z : r = 0
    · have dz : decide ((r : Int) = 0) = true := decide_eq_true (by omega)
      rw [if_pos z]
      simp only [mFun_eq', mSeq_eq, mIfS, mRet, mRetN, mAsg, mPar, mExpr, mSkip, mBrk, mCnt, mBad, mRaise, outE_ok, outT_ok, outE_er, seqO_nx, seqO_rt, seqO_er, retO_rt, retO_nx, retO_er, Res.bind_ok, Res.bind_er, Res.bind_bad, mVar_0, mVar_s, mVarI_0, mVarI_s, strip_ref, strip_non, strip_bl, strip_int, strip_str, strip_lst, strip_tup, strip_obj, strip_lck, strip_idn, mC, mBin, mUn, mTst, mCB, mCons, mNil, mStar, mAnd, mOr, mAndT, mOrT, mNotT, mIf, mTru, truV, mTup, mLst, ds?, ds?_map, mCall, withD, mFld, getF_o, getF_r, oNeg, oNot, oAbs, oMax, oMin, oI1, oI2, oInt, add_ii, sub_ii, lt_ii, le_ii, gt_ii, ge_ii, eq_ii, ne_ii, gN, gT_tup, gL_lst, gsC_cons, gsN_nil, List.map_cons, List.map_nil, List.length_cons, List.length_nil, List.cons_append, List.nil_append, List.append_nil, List.replicate_zero, List.replicate_succ, List.set_cons_zero, List.set_cons_succ, List.zip_cons_cons, List.zip_nil_right, List.foldl_cons, List.foldl_nil, Option.map_some, Option.map_none, Option.bind_some, Nat.reduceAdd, Nat.reduceSub, Nat.reduceEqDiff, Nat.reduceLT, Nat.reduceLeDiff, String.reduceEq, reduceCtorEq, Int.reduceLT, Int.reduceLE, Int.reduceEq, Int.reduceAdd, Int.reduceSub, Int.reduceNeg, Int.reduceMul, String.reduceBEq, decide_true, decide_false, if_true, if_false, ite_true, ite_false, Bool.false_eq_true, Bool.not_true, Bool.not_false, Bool.true_and, Bool.false_and, Bool.and_true, Bool.and_false, Bool.true_or, Bool.false_or, Bool.or_true, Bool.or_false, cE, dz, iq, strip_pc, q0, q1, len_tup, List.length_map, mq, eq]
    · have dz : decide ((r : Int) = 0) = false := decide_eq_false (by omega)
      simp only [mFun_eq', mSeq_eq, mIfS, mRet, mRetN, mAsg, mPar, mExpr, mSkip, mBrk, mCnt, mBad, mRaise, outE_ok, outT_ok, outE_er, seqO_nx, seqO_rt, seqO_er, retO_rt, retO_nx, retO_er, Res.bind_ok, Res.bind_er, Res.bind_bad, mVar_0, mVar_s, mVarI_0, mVarI_s, strip_ref, strip_non, strip_bl, strip_int, strip_str, strip_lst, strip_tup, strip_obj, strip_lck, strip_idn, mC, mBin, mUn, mTst, mCB, mCons, mNil, mStar, mAnd, mOr, mAndT, mOrT, mNotT, mIf, mTru, truV, mTup, mLst, ds?, ds?_map, mCall, withD, mFld, getF_o, getF_r, oNeg, oNot, oAbs, oMax, oMin, oI1, oI2, oInt, add_ii, sub_ii, lt_ii, le_ii, gt_ii, ge_ii, eq_ii, ne_ii, gN, gT_tup, gL_lst, gsC_cons, gsN_nil, List.map_cons, List.map_nil, List.length_cons, List.length_nil, List.cons_append, List.nil_append, List.append_nil, List.replicate_zero, List.replicate_succ, List.set_cons_zero, List.set_cons_succ, List.zip_cons_cons, List.zip_nil_right, List.foldl_cons, List.foldl_nil, Option.map_some, Option.map_none, Option.bind_some, Nat.reduceAdd, Nat.reduceSub, Nat.reduceEqDiff, Nat.reduceLT, Nat.reduceLeDiff, String.reduceEq, reduceCtorEq, Int.reduceLT, Int.reduceLE, Int.reduceEq, Int.reduceAdd, Int.reduceSub, Int.reduceNeg, Int.reduceMul, String.reduceBEq, decide_true, decide_false, if_true, if_false, ite_true, ite_false, Bool.false_eq_true, Bool.not_true, Bool.not_false, Bool.true_and, Bool.false_and, Bool.and_true, Bool.and_false, Bool.true_or, Bool.false_or, Bool.or_true, Bool.or_false, cE, dz, z]
  have sl : seqR (p :: L) l = segR p (upN l p) ++ fullR L := rfl
  have sr : seqR (q :: M) r = segR q (upN r q) ++ fullR M := rfl
  rw [sl, sr]
  generalize upN l p = l' at *
  generalize upN r q = r' at *
  have s3 : mAsg (mIf (mTst (mBin oLt (mVar 4) (mVar 5))) (mVar 4) (mVar 5)) (gN 8) (cE x0 x1 A B (l' : Nat) (r' : Nat) i j e f d h k) [] = .nx (cE x0 x1 A B (l' : Nat) (r' : Nat) i j (some (.d (.int ((min l' r' : Nat) : Int)))) f d h k) [] := by
    by_cases z : l' < r'
    · have dz : decide ((l' : Int) < (r' : Int)) = true := decide_eq_true (by omega)
      have e1 : min l' r' = l' := by omega
      simp only [mFun_eq', mSeq_eq, mIfS, mRet, mRetN, mAsg, mPar, mExpr, mSkip, mBrk, mCnt, mBad, mRaise, outE_ok, outT_ok, outE_er, seqO_nx, seqO_rt, seqO_er, retO_rt, retO_nx, retO_er, Res.bind_ok, Res.bind_er, Res.bind_bad, mVar_0, mVar_s, mVarI_0, mVarI_s, strip_ref, strip_non, strip_bl, strip_int, strip_str, strip_lst, strip_tup, strip_obj, strip_lck, strip_idn, mC, mBin, mUn, mTst, mCB, mCons, mNil, mStar, mAnd, mOr, mAndT, mOrT, mNotT, mIf, mTru, truV, mTup, mLst, ds?, ds?_map, mCall, withD, mFld, getF_o, getF_r, oNeg, oNot, oAbs, oMax, oMin, oI1, oI2, oInt, add_ii, sub_ii, lt_ii, le_ii, gt_ii, ge_ii, eq_ii, ne_ii, gN, gT_tup, gL_lst, gsC_cons, gsN_nil, List.map_cons, List.map_nil, List.length_cons, List.length_nil, List.cons_append, List.nil_append, List.append_nil, List.replicate_zero, List.replicate_succ, List.set_cons_zero, List.set_cons_succ, List.zip_cons_cons, List.zip_nil_right, List.foldl_cons, List.foldl_nil, Option.map_some, Option.map_none, Option.bind_some, Nat.reduceAdd, Nat.reduceSub, Nat.reduceEqDiff, Nat.reduceLT, Nat.reduceLeDiff, String.reduceEq, reduceCtorEq, Int.reduceLT, Int.reduceLE, Int.reduceEq, Int.reduceAdd, Int.reduceSub, Int.reduceNeg, Int.reduceMul, String.reduceBEq, decide_true, decide_false, if_true, if_false, ite_true, ite_false, Bool.false_eq_true, Bool.not_true, Bool.not_false, Bool.true_and, Bool.false_and, Bool.and_true, Bool.and_false, Bool.true_or, Bool.false_or, Bool.or_true, Bool.or_false, cE, dz, e1]
    · have dz : decide ((l' : Int) < (r' : Int)) = false := decide_eq_false (by omega)
      have e1 : min l' r' = r' := by omega
      simp only [mFun_eq', mSeq_eq, mIfS, mRet, mRetN, mAsg, mPar, mExpr, mSkip, mBrk, mCnt, mBad, mRaise, outE_ok, outT_ok, outE_er, seqO_nx, seqO_rt, seqO_er, retO_rt, retO_nx, retO_er, Res.bind_ok, Res.bind_er, Res.bind_bad, mVar_0, mVar_s, mVarI_0, mVarI_s, strip_ref, strip_non, strip_bl, strip_int, strip_str, strip_lst, strip_tup, strip_obj, strip_lck, strip_idn, mC, mBin, mUn, mTst, mCB, mCons, mNil, mStar, mAnd, mOr, mAndT, mOrT, mNotT, mIf, mTru, truV, mTup, mLst, ds?, ds?_map, mCall, withD, mFld, getF_o, getF_r, oNeg, oNot, oAbs, oMax, oMin, oI1, oI2, oInt, add_ii, sub_ii, lt_ii, le_ii, gt_ii, ge_ii, eq_ii, ne_ii, gN, gT_tup, gL_lst, gsC_cons, gsN_nil, List.map_cons, List.map_nil, List.length_cons, List.length_nil, List.cons_append, List.nil_append, List.append_nil, List.replicate_zero, List.replicate_succ, List.set_cons_zero, List.set_cons_succ, List.zip_cons_cons, List.zip_nil_right, List.foldl_cons, List.foldl_nil, Option.map_some, Option.map_none, Option.bind_some, Nat.reduceAdd, Nat.reduceSub, Nat.reduceEqDiff, Nat.reduceLT, Nat.reduceLeDiff, String.reduceEq, reduceCtorEq, Int.reduceLT, Int.reduceLE, Int.reduceEq, Int.reduceAdd, Int.reduceSub, Int.reduceNeg, Int.reduceMul, String.reduceBEq, decide_true, decide_false, if_true, if_false, ite_true, ite_false, Bool.false_eq_true, Bool.not_true, Bool.not_false, Bool.true_and, Bool.false_and, Bool.and_true, Bool.and_false, Bool.true_or, Bool.false_or, Bool.or_true, Bool.or_false, cE, dz, e1]
  have s4 : mAsg (mBin oAdd (mCB oLen (mCons (mBin oIx (mBin oIx (mVar 2) (mVar 6)) (mC (.int 0))) mNil)) (mCB oLen (mCons (mBin oIx (mBin oIx (mVar 3) (mVar 7)) (mC (.int 0))) mNil))) (gN 9) (cE x0 x1 A B (l' : Nat) (r' : Nat) i j (some (.d (.int ((min l' r' : Nat) : Int)))) f d h k) []
      = .nx (cE x0 x1 A B (l' : Nat) (r' : Nat) i j (some (.d (.int ((min l' r' : Nat) : Int)))) (some (.d (.int ((p.1.length + q.1.length : Nat) : Int)))) d h k) [] := by
    have e1 : (p.1.length : Int) + (q.1.length : Int) = ((p.1.length + q.1.length : Nat) : Int) := by omega
    simp only [mFun_eq', mSeq_eq, mIfS, mRet, mRetN, mAsg, mPar, mExpr, mSkip, mBrk, mCnt, mBad, mRaise, outE_ok, outT_ok, outE_er, seqO_nx, seqO_rt, seqO_er, retO_rt, retO_nx, retO_er, Res.bind_ok, Res.bind_er, Res.bind_bad, mVar_0, mVar_s, mVarI_0, mVarI_s, strip_ref, strip_non, strip_bl, strip_int, strip_str, strip_lst, strip_tup, strip_obj, strip_lck, strip_idn, mC, mBin, mUn, mTst, mCB, mCons, mNil, mStar, mAnd, mOr, mAndT, mOrT, mNotT, mIf, mTru, truV, mTup, mLst, ds?, ds?_map, mCall, withD, mFld, getF_o, getF_r, oNeg, oNot, oAbs, oMax, oMin, oI1, oI2, oInt, add_ii, sub_ii, lt_ii, le_ii, gt_ii, ge_ii, eq_ii, ne_ii, gN, gT_tup, gL_lst, gsC_cons, gsN_nil, List.map_cons, List.map_nil, List.length_cons, List.length_nil, List.cons_append, List.nil_append, List.append_nil, List.replicate_zero, List.replicate_succ, List.set_cons_zero, List.set_cons_succ, List.zip_cons_cons, List.zip_nil_right, List.foldl_cons, List.foldl_nil, Option.map_some, Option.map_none, Option.bind_some, Nat.reduceAdd, Nat.reduceSub, Nat.reduceEqDiff, Nat.reduceLT, Nat.reduceLeDiff, String.reduceEq, reduceCtorEq, Int.reduceLT, Int.reduceLE, Int.reduceEq, Int.reduceAdd, Int.reduceSub, Int.reduceNeg, Int.reduceMul, String.reduceBEq, decide_true, decide_false, if_true, if_false, ite_true, ite_false, Bool.false_eq_true, Bool.not_true, Bool.not_false, Bool.true_and, Bool.false_and, Bool.and_true, Bool.and_false, Bool.true_or, Bool.false_or, Bool.or_true, Bool.or_false, cE, ip, iq, strip_pc, p0, q0, len_tup, List.length_map, e1]
  have it : mItR1 (mCons (mIf (mTst (mBin oLt (mVar 8) (mVar 9))) (mVar 8) (mVar 9)) mNil) (cE x0 x1 A B (l' : Nat) (r' : Nat) i j (some (.d (.int ((min l' r' : Nat) : Int)))) (some (.d (.int ((p.1.length + q.1.length : Nat) : Int)))) d h k) []
      = .ok ⟨(List.range (min (min l' r') (p.1.length + q.1.length))).map fun (d : Nat) => Va.d (.int (d : Int)), none⟩ [] := by
    have l2 := gp.l2
    have l3 := gq.l2
    rw [itR1 (n := min (min l' r') (p.1.length + q.1.length)) (st1 := []) ?_ (by omega), rangeV_eq]
    · simp only [Int.zero_add]
    · by_cases z : min l' r' < p.1.length + q.1.length
      · have dz : decide (((min l' r' : Nat) : Int) < ((p.1.length + q.1.length : Nat) : Int)) = true := decide_eq_true (by omega)
        have e1 : min (min l' r') (p.1.length + q.1.length) = min l' r' := by omega
        simp only [mFun_eq', mSeq_eq, mIfS, mRet, mRetN, mAsg, mPar, mExpr, mSkip, mBrk, mCnt, mBad, mRaise, outE_ok, outT_ok, outE_er, seqO_nx, seqO_rt, seqO_er, retO_rt, retO_nx, retO_er, Res.bind_ok, Res.bind_er, Res.bind_bad, mVar_0, mVar_s, mVarI_0, mVarI_s, strip_ref, strip_non, strip_bl, strip_int, strip_str, strip_lst, strip_tup, strip_obj, strip_lck, strip_idn, mC, mBin, mUn, mTst, mCB, mCons, mNil, mStar, mAnd, mOr, mAndT, mOrT, mNotT, mIf, mTru, truV, mTup, mLst, ds?, ds?_map, mCall, withD, mFld, getF_o, getF_r, oNeg, oNot, oAbs, oMax, oMin, oI1, oI2, oInt, add_ii, sub_ii, lt_ii, le_ii, gt_ii, ge_ii, eq_ii, ne_ii, gN, gT_tup, gL_lst, gsC_cons, gsN_nil, List.map_cons, List.map_nil, List.length_cons, List.length_nil, List.cons_append, List.nil_append, List.append_nil, List.replicate_zero, List.replicate_succ, List.set_cons_zero, List.set_cons_succ, List.zip_cons_cons, List.zip_nil_right, List.foldl_cons, List.foldl_nil, Option.map_some, Option.map_none, Option.bind_some, Nat.reduceAdd, Nat.reduceSub, Nat.reduceEqDiff, Nat.reduceLT, Nat.reduceLeDiff, String.reduceEq, reduceCtorEq, Int.reduceLT, Int.reduceLE, Int.reduceEq, Int.reduceAdd, Int.reduceSub, Int.reduceNeg, Int.reduceMul, String.reduceBEq, decide_true, decide_false, if_true, if_false, ite_true, ite_false, Bool.false_eq_true, Bool.not_true, Bool.not_false, Bool.true_and, Bool.false_and, Bool.and_true, Bool.and_false, Bool.true_or, Bool.false_or, Bool.or_true, Bool.or_false, cE, dz, e1]
      · have dz : decide (((min l' r' : Nat) : Int) < ((p.1.length + q.1.length : Nat) : Int)) = false := decide_eq_false (by omega)
        have e1 : min (min l' r') (p.1.length + q.1.length) = p.1.length + q.1.length := by omega
        simp only [mFun_eq', mSeq_eq, mIfS, mRet, mRetN, mAsg, mPar, mExpr, mSkip, mBrk, mCnt, mBad, mRaise, outE_ok, outT_ok, outE_er, seqO_nx, seqO_rt, seqO_er, retO_rt, retO_nx, retO_er, Res.bind_ok, Res.bind_er, Res.bind_bad, mVar_0, mVar_s, mVarI_0, mVarI_s, strip_ref, strip_non, strip_bl, strip_int, strip_str, strip_lst, strip_tup, strip_obj, strip_lck, strip_idn, mC, mBin, mUn, mTst, mCB, mCons, mNil, mStar, mAnd, mOr, mAndT, mOrT, mNotT, mIf, mTru, truV, mTup, mLst, ds?, ds?_map, mCall, withD, mFld, getF_o, getF_r, oNeg, oNot, oAbs, oMax, oMin, oI1, oI2, oInt, add_ii, sub_ii, lt_ii, le_ii, gt_ii, ge_ii, eq_ii, ne_ii, gN, gT_tup, gL_lst, gsC_cons, gsN_nil, List.map_cons, List.map_nil, List.length_cons, List.length_nil, List.cons_append, List.nil_append, List.append_nil, List.replicate_zero, List.replicate_succ, List.set_cons_zero, List.set_cons_succ, List.zip_cons_cons, List.zip_nil_right, List.foldl_cons, List.foldl_nil, Option.map_some, Option.map_none, Option.bind_some, Nat.reduceAdd, Nat.reduceSub, Nat.reduceEqDiff, Nat.reduceLT, Nat.reduceLeDiff, String.reduceEq, reduceCtorEq, Int.reduceLT, Int.reduceLE, Int.reduceEq, Int.reduceAdd, Int.reduceSub, Int.reduceNeg, Int.reduceMul, String.reduceBEq, decide_true, decide_false, if_true, if_false, ite_true, ite_false, Bool.false_eq_true, Bool.not_true, Bool.not_false, Bool.true_and, Bool.false_and, Bool.and_true, Bool.and_false, Bool.true_or, Bool.false_or, Bool.or_true, Bool.or_false, cE, dz, e1]
  have fe := mFor_eq (tg := gN 10) (b := lf0_compared) it
  have lp := forM_find (g := fun (d : Nat) => Va.d (.int (d : Int))) (tg := gN 10) (b := lf0_compared)
    (fun ρ => ∃ d h k, ρ = cE x0 x1 A B (l' : Nat) (r' : Nat) i j (some (.d (.int ((min l' r' : Nat) : Int)))) (some (.d (.int ((p.1.length + q.1.length : Nat) : Int)))) d h k)
    (fun d => decide (fa p l' d ≠ fa q r' d)) (fun d => .d (.int (if fa q r' d < fa p l' d then 1 else -1))) (fun dd ρ hg => by
      obtain ⟨d, h, k, rfl⟩ := hg
      have g1 := p_figure gp l' dd []
      have g2 := p_figure gq r' dd []
      refine ⟨_, rfl, fun hb => ?_, fun hb => ?_⟩
      · have hne : fa p l' dd ≠ fa q r' dd := of_decide_eq_true hb
        by_cases z : fa q r' dd < fa p l' dd
        · simp only [mFun_eq', mSeq_eq, mIfS, mRet, mRetN, mAsg, mPar, mExpr, mSkip, mBrk, mCnt, mBad, mRaise, outE_ok, outT_ok, outE_er, seqO_nx, seqO_rt, seqO_er, retO_rt, retO_nx, retO_er, Res.bind_ok, Res.bind_er, Res.bind_bad, mVar_0, mVar_s, mVarI_0, mVarI_s, strip_ref, strip_non, strip_bl, strip_int, strip_str, strip_lst, strip_tup, strip_obj, strip_lck, strip_idn, mC, mBin, mUn, mTst, mCB, mCons, mNil, mStar, mAnd, mOr, mAndT, mOrT, mNotT, mIf, mTru, truV, mTup, mLst, ds?, ds?_map, mCall, withD, mFld, getF_o, getF_r, oNeg, oNot, oAbs, oMax, oMin, oI1, oI2, oInt, add_ii, sub_ii, lt_ii, le_ii, gt_ii, ge_ii, eq_ii, ne_ii, gN, gT_tup, gL_lst, gsC_cons, gsN_nil, List.map_cons, List.map_nil, List.length_cons, List.length_nil, List.cons_append, List.nil_append, List.append_nil, List.replicate_zero, List.replicate_succ, List.set_cons_zero, List.set_cons_succ, List.zip_cons_cons, List.zip_nil_right, List.foldl_cons, List.foldl_nil, Option.map_some, Option.map_none, Option.bind_some, Nat.reduceAdd, Nat.reduceSub, Nat.reduceEqDiff, Nat.reduceLT, Nat.reduceLeDiff, String.reduceEq, reduceCtorEq, Int.reduceLT, Int.reduceLE, Int.reduceEq, Int.reduceAdd, Int.reduceSub, Int.reduceNeg, Int.reduceMul, String.reduceBEq, decide_true, decide_false, if_true, if_false, ite_true, ite_false, Bool.false_eq_true, Bool.not_true, Bool.not_false, Bool.true_and, Bool.false_and, Bool.and_true, Bool.and_false, Bool.true_or, Bool.false_or, Bool.or_true, Bool.or_false, lf0_compared, cE, ip, iq, strip_pc, g1, g2, decide_eq_false hne, decide_eq_true z, z]
        · simp only [mFun_eq', mSeq_eq, mIfS, mRet, mRetN, mAsg, mPar, mExpr, mSkip, mBrk, mCnt, mBad, mRaise, outE_ok, outT_ok, outE_er, seqO_nx, seqO_rt, seqO_er, retO_rt, retO_nx, retO_er, Res.bind_ok, Res.bind_er, Res.bind_bad, mVar_0, mVar_s, mVarI_0, mVarI_s, strip_ref, strip_non, strip_bl, strip_int, strip_str, strip_lst, strip_tup, strip_obj, strip_lck, strip_idn, mC, mBin, mUn, mTst, mCB, mCons, mNil, mStar, mAnd, mOr, mAndT, mOrT, mNotT, mIf, mTru, truV, mTup, mLst, ds?, ds?_map, mCall, withD, mFld, getF_o, getF_r, oNeg, oNot, oAbs, oMax, oMin, oI1, oI2, oInt, add_ii, sub_ii, lt_ii, le_ii, gt_ii, ge_ii, eq_ii, ne_ii, gN, gT_tup, gL_lst, gsC_cons, gsN_nil, List.map_cons, List.map_nil, List.length_cons, List.length_nil, List.cons_append, List.nil_append, List.append_nil, List.replicate_zero, List.replicate_succ, List.set_cons_zero, List.set_cons_succ, List.zip_cons_cons, List.zip_nil_right, List.foldl_cons, List.foldl_nil, Option.map_some, Option.map_none, Option.bind_some, Nat.reduceAdd, Nat.reduceSub, Nat.reduceEqDiff, Nat.reduceLT, Nat.reduceLeDiff, String.reduceEq, reduceCtorEq, Int.reduceLT, Int.reduceLE, Int.reduceEq, Int.reduceAdd, Int.reduceSub, Int.reduceNeg, Int.reduceMul, String.reduceBEq, decide_true, decide_false, if_true, if_false, ite_true, ite_false, Bool.false_eq_true, Bool.not_true, Bool.not_false, Bool.true_and, Bool.false_and, Bool.and_true, Bool.and_false, Bool.true_or, Bool.false_or, Bool.or_true, Bool.or_false, lf0_compared, cE, ip, iq, strip_pc, g1, g2, decide_eq_false hne, decide_eq_false z, z]
      · have he : fa p l' dd = fa q r' dd := by
          have := of_decide_eq_false hb
          omega
        refine ⟨cE x0 x1 A B (l' : Nat) (r' : Nat) i j (some (.d (.int ((min l' r' : Nat) : Int)))) (some (.d (.int ((p.1.length + q.1.length : Nat) : Int)))) (some (.d (.int dd))) (some (.d (.int (fa p l' dd)))) (some (.d (.int (fa q r' dd)))), ?_, _, _, _, rfl⟩
        simp only [mFun_eq', mSeq_eq, mIfS, mRet, mRetN, mAsg, mPar, mExpr, mSkip, mBrk, mCnt, mBad, mRaise, outE_ok, outT_ok, outE_er, seqO_nx, seqO_rt, seqO_er, retO_rt, retO_nx, retO_er, Res.bind_ok, Res.bind_er, Res.bind_bad, mVar_0, mVar_s, mVarI_0, mVarI_s, strip_ref, strip_non, strip_bl, strip_int, strip_str, strip_lst, strip_tup, strip_obj, strip_lck, strip_idn, mC, mBin, mUn, mTst, mCB, mCons, mNil, mStar, mAnd, mOr, mAndT, mOrT, mNotT, mIf, mTru, truV, mTup, mLst, ds?, ds?_map, mCall, withD, mFld, getF_o, getF_r, oNeg, oNot, oAbs, oMax, oMin, oI1, oI2, oInt, add_ii, sub_ii, lt_ii, le_ii, gt_ii, ge_ii, eq_ii, ne_ii, gN, gT_tup, gL_lst, gsC_cons, gsN_nil, List.map_cons, List.map_nil, List.length_cons, List.length_nil, List.cons_append, List.nil_append, List.append_nil, List.replicate_zero, List.replicate_succ, List.set_cons_zero, List.set_cons_succ, List.zip_cons_cons, List.zip_nil_right, List.foldl_cons, List.foldl_nil, Option.map_some, Option.map_none, Option.bind_some, Nat.reduceAdd, Nat.reduceSub, Nat.reduceEqDiff, Nat.reduceLT, Nat.reduceLeDiff, String.reduceEq, reduceCtorEq, Int.reduceLT, Int.reduceLE, Int.reduceEq, Int.reduceAdd, Int.reduceSub, Int.reduceNeg, Int.reduceMul, String.reduceBEq, decide_true, decide_false, if_true, if_false, ite_true, ite_false, Bool.false_eq_true, Bool.not_true, Bool.not_false, Bool.true_and, Bool.false_and, Bool.and_true, Bool.and_false, Bool.true_or, Bool.false_or, Bool.or_true, Bool.or_false, lf0_compared, cE, ip, iq, strip_pc, g1, g2, decide_eq_true he]) (List.range (min (min l' r') (p.1.length + q.1.length))) _ ⟨d, h, k, rfl⟩
  have pl : 0 < p.1.length := gp.l1
  have ql : 0 < q.1.length := gq.l1
  rcases lp with ⟨dd, l1, l2⟩ | ⟨l1, ρ1, l2, d2, h2', k2, rfl⟩
  · left
    refine ⟨[], ?_⟩
    have hd := List.mem_of_find?_eq_some l1
    have hd2 : dd < min (min l' r') (p.1.length + q.1.length) := List.mem_range.mp hd
    have hne : fa p l' dd ≠ fa q r' dd := by have := List.find?_some l1; simpa using this
    have hbef : ∀ d, d < dd → fa p l' d = fa q r' d := fun d hd' => by
      obtain ⟨_, as, bs, e1, e2⟩ := List.find?_eq_some_iff_append.mp l1
      have : d ∈ as := by
        have hlen : as.length = dd := by
          have h3 : (List.range (min (min l' r') (p.1.length + q.1.length)))[as.length]? = some dd := by rw [e1]; simp
          rw [List.getElem?_range (by
            have := congrArg List.length e1
            simp only [List.length_range, List.length_append, List.length_cons] at this
            omega)] at h3
          exact Option.some.inj h3
        have h4 : (List.range (min (min l' r') (p.1.length + q.1.length)))[d]? = some d := List.getElem?_range (by omega)
        rw [e1, List.getElem?_append_left (by omega)] at h4
        exact List.mem_of_getElem? h4
      have := e2 d this
      simpa using this
    have cm : cmpL (segR p l' ++ fullR L) (segR q r' ++ fullR M) = if fa q r' dd < fa p l' dd then 1 else -1 := by
      rw [segR_split p l' (min l' r') (by omega), segR_split q r' (min l' r') (by omega), List.append_assoc, List.append_assoc]
      exact cmpL_first (by omega) _ _ hbef hne
    rw [cm]
    unfold lw1_compared
    simp only [mSeq_eq, s1, seqO_nx, s2, s3, s4, fe, l2, seqO_rt]
  · right
    have hall : ∀ d, d < min (min l' r') (p.1.length + q.1.length) → fa p l' d = fa q r' d := fun d hd => by
      have := List.find?_eq_none.mp l1 d (List.mem_range.mpr hd)
      simpa using this
    have hev : ∀ d, d < min l' r' → fa p l' d = fa q r' d := fun d hd => by
      by_cases z : min l' r' ≤ p.1.length + q.1.length
      · exact hall d (by omega)
      · exact rings pl ql (fa_per p l') (fa_per q r') (fun d hd => hall d (by omega)) d
    refine ⟨min l' r', some (.d (.int ((min l' r' : Nat) : Int))), some (.d (.int ((p.1.length + q.1.length : Nat) : Int))), d2, h2', k2, rfl, ?_, hev⟩
    have s5 : mPar [4, 5] (mCons (mBin oSub (mVar 4) (mVar 8)) (mCons (mBin oSub (mVar 5) (mVar 8)) mNil)) (cE x0 x1 A B (l' : Nat) (r' : Nat) i j (some (.d (.int ((min l' r' : Nat) : Int)))) (some (.d (.int ((p.1.length + q.1.length : Nat) : Int)))) d2 h2' k2) []
        = .nx (cE x0 x1 A B ((l' - min l' r' : Nat) : Int) ((r' - min l' r' : Nat) : Int) i j (some (.d (.int ((min l' r' : Nat) : Int)))) (some (.d (.int ((p.1.length + q.1.length : Nat) : Int)))) d2 h2' k2) [] := by
      have e1 : (l' : Int) - ((min l' r' : Nat) : Int) = ((l' - min l' r' : Nat) : Int) := by omega
      have e2 : (r' : Int) - ((min l' r' : Nat) : Int) = ((r' - min l' r' : Nat) : Int) := by omega
      simp only [mFun_eq', mSeq_eq, mIfS, mRet, mRetN, mAsg, mPar, mExpr, mSkip, mBrk, mCnt, mBad, mRaise, outE_ok, outT_ok, outE_er, seqO_nx, seqO_rt, seqO_er, retO_rt, retO_nx, retO_er, Res.bind_ok, Res.bind_er, Res.bind_bad, mVar_0, mVar_s, mVarI_0, mVarI_s, strip_ref, strip_non, strip_bl, strip_int, strip_str, strip_lst, strip_tup, strip_obj, strip_lck, strip_idn, mC, mBin, mUn, mTst, mCB, mCons, mNil, mStar, mAnd, mOr, mAndT, mOrT, mNotT, mIf, mTru, truV, mTup, mLst, ds?, ds?_map, mCall, withD, mFld, getF_o, getF_r, oNeg, oNot, oAbs, oMax, oMin, oI1, oI2, oInt, add_ii, sub_ii, lt_ii, le_ii, gt_ii, ge_ii, eq_ii, ne_ii, gN, gT_tup, gL_lst, gsC_cons, gsN_nil, List.map_cons, List.map_nil, List.length_cons, List.length_nil, List.cons_append, List.nil_append, List.append_nil, List.replicate_zero, List.replicate_succ, List.set_cons_zero, List.set_cons_succ, List.zip_cons_cons, List.zip_nil_right, List.foldl_cons, List.foldl_nil, Option.map_some, Option.map_none, Option.bind_some, Nat.reduceAdd, Nat.reduceSub, Nat.reduceEqDiff, Nat.reduceLT, Nat.reduceLeDiff, String.reduceEq, reduceCtorEq, Int.reduceLT, Int.reduceLE, Int.reduceEq, Int.reduceAdd, Int.reduceSub, Int.reduceNeg, Int.reduceMul, String.reduceBEq, decide_true, decide_false, if_true, if_false, ite_true, ite_false, Bool.false_eq_true, Bool.not_true, Bool.not_false, Bool.true_and, Bool.false_and, Bool.and_true, Bool.and_false, Bool.true_or, Bool.false_or, Bool.or_true, Bool.or_false, cE, e1, e2]
    have nt : ∀ (n x : Nat), (x : Int) + (if decide ((n : Int) = 0) = true then 1 else 0) = ((if n = 0 then x + 1 else x : Nat) : Int) := fun n x => by
      by_cases z : n = 0
      · rw [if_pos z, if_pos (decide_eq_true (by omega))]; omega
      · rw [if_neg z, if_neg (by rw [decide_eq_false (by omega)]; decide)]; omega
    have s6 : mPar [6, 7] (mCons (mBin oAdd (mVar 6) (mCB oInt (mCons (mBin oEq (mVar 4) (mC (.int 0))) mNil))) (mCons (mBin oAdd (mVar 7) (mCB oInt (mCons (mBin oEq (mVar 5) (mC (.int 0))) mNil))) mNil)) (cE x0 x1 A B ((l' - min l' r' : Nat) : Int) ((r' - min l' r' : Nat) : Int) i j (some (.d (.int ((min l' r' : Nat) : Int)))) (some (.d (.int ((p.1.length + q.1.length : Nat) : Int)))) d2 h2' k2) []
        = .nx (cE x0 x1 A B ((l' - min l' r' : Nat) : Int) ((r' - min l' r' : Nat) : Int) ((if l' - min l' r' = 0 then i + 1 else i : Nat) : Int) ((if r' - min l' r' = 0 then j + 1 else j : Nat) : Int) (some (.d (.int ((min l' r' : Nat) : Int)))) (some (.d (.int ((p.1.length + q.1.length : Nat) : Int)))) d2 h2' k2) [] := by
      have n1 := nt (l' - min l' r') i
      have n2 := nt (r' - min l' r') j
      simp only [mFun_eq', mSeq_eq, mIfS, mRet, mRetN, mAsg, mPar, mExpr, mSkip, mBrk, mCnt, mBad, mRaise, outE_ok, outT_ok, outE_er, seqO_nx, seqO_rt, seqO_er, retO_rt, retO_nx, retO_er, Res.bind_ok, Res.bind_er, Res.bind_bad, mVar_0, mVar_s, mVarI_0, mVarI_s, strip_ref, strip_non, strip_bl, strip_int, strip_str, strip_lst, strip_tup, strip_obj, strip_lck, strip_idn, mC, mBin, mUn, mTst, mCB, mCons, mNil, mStar, mAnd, mOr, mAndT, mOrT, mNotT, mIf, mTru, truV, mTup, mLst, ds?, ds?_map, mCall, withD, mFld, getF_o, getF_r, oNeg, oNot, oAbs, oMax, oMin, oI1, oI2, oInt, add_ii, sub_ii, lt_ii, le_ii, gt_ii, ge_ii, eq_ii, ne_ii, gN, gT_tup, gL_lst, gsC_cons, gsN_nil, List.map_cons, List.map_nil, List.length_cons, List.length_nil, List.cons_append, List.nil_append, List.append_nil, List.replicate_zero, List.replicate_succ, List.set_cons_zero, List.set_cons_succ, List.zip_cons_cons, List.zip_nil_right, List.foldl_cons, List.foldl_nil, Option.map_some, Option.map_none, Option.bind_some, Nat.reduceAdd, Nat.reduceSub, Nat.reduceEqDiff, Nat.reduceLT, Nat.reduceLeDiff, String.reduceEq, reduceCtorEq, Int.reduceLT, Int.reduceLE, Int.reduceEq, Int.reduceAdd, Int.reduceSub, Int.reduceNeg, Int.reduceMul, String.reduceBEq, decide_true, decide_false, if_true, if_false, ite_true, ite_false, Bool.false_eq_true, Bool.not_true, Bool.not_false, Bool.true_and, Bool.false_and, Bool.and_true, Bool.and_false, Bool.true_or, Bool.false_or, Bool.or_true, Bool.or_false, cE, n1, n2]
    unfold lw1_compared
    simp only [mSeq_eq, s1, seqO_nx, s2, s3, s4, fe, l2, s5, s6]
theorem seq_step {l : Nat} {p : Pc} {L A : List Pc} {i b : Nat} (h : A.drop i = p :: L) (hb : b ≤ upN l p) : seqR (p :: L) l = (List.range b).map (fa p (upN l p)) ++ seqR (A.drop (if upN l p - b = 0 then i + 1 else i)) (upN l p - b) := by
  show segR p (upN l p) ++ fullR L = _
  rw [segR_split p (upN l p) b hb, List.append_assoc]
  congr 1
  by_cases z : upN l p - b = 0
  · rw [if_pos z, z, (drop_at h).2.1, seqR0]
    simp [segR]
  · rw [if_neg z, h]
    show _ = segR p (if upN l p - b = 0 then pcN p else upN l p - b) ++ fullR L
    rw [if_neg z]
theorem drop_cases {α : Type} (l : List α) (i : Nat) (h : i < l.length) : ∃ x r, l.drop i = x :: r := ⟨l[i], l.drop (i + 1), List.drop_eq_getElem_cons h⟩
theorem p_compared {s s' g g' : Int} {ps qs : List Pc} (h1 : ∀ p ∈ ps, GoodP s p) (h2 : ∀ p ∈ qs, GoodP s p) (hl : (fullR ps.reverse).length = (fullR qs.reverse).length) (st : Sto) :
    pureF m_compared [.d (gnD s g ps), .d (gnD s' g' qs)] st = .ok (.d (.int (cmpL (fullR ps.reverse) (fullR qs.reverse)))) st := by
  have hA : ∀ p ∈ ps.reverse, GoodP s p := fun p hp => h1 p (List.mem_reverse.mp hp)
  have hB : ∀ p ∈ qs.reverse, GoodP s p := fun p hp => h2 p (List.mem_reverse.mp hp)
  have pos : ∀ (l : Nat) (p : Pc), GoodP s p → 0 < upN l p := fun l p gp => by
    unfold upN
    split
    · exact Nat.mul_pos gp.l1 gp.t1
    · omega
  have o := mWhile_two (c := lc2_compared) (b := lw1_compared)
    (I := fun n ρ st => st = [] ∧ ∃ (i j l r : Nat) (e f d h k : Option Va), ρ = cE (some (.d (gnD s g ps))) (some (.d (gnD s' g' qs))) ps.reverse qs.reverse l r i j e f d h k ∧ n = (ps.reverse.length - i) + (qs.reverse.length - j) ∧ (l ≠ 0 → i < ps.reverse.length) ∧ (r ≠ 0 → j < qs.reverse.length) ∧
      (seqR (ps.reverse.drop i) l).length = (seqR (qs.reverse.drop j) r).length ∧ cmpL (fullR ps.reverse) (fullR qs.reverse) = cmpL (seqR (ps.reverse.drop i) l) (seqR (qs.reverse.drop j) r))
    (Q := fun ρ st => st = [] ∧ cmpL (fullR ps.reverse) (fullR qs.reverse) = 0) (R := fun v st => v = .d (.int (cmpL (fullR ps.reverse) (fullR qs.reverse)))) (fun n ρ st hi => by
      obtain ⟨rfl, i, j, l, r, e, f, d, h, k, rfl, rfl, hi1, hj1, hlen, hc⟩ := hi
      by_cases z : i < ps.reverse.length
      · right
        obtain ⟨p, L, e1⟩ := drop_cases _ i z
        have gp := hA p (List.mem_of_getElem? (drop_at e1).1)
        have pl := pos l p gp
        have nz : 0 < (seqR (ps.reverse.drop i) l).length := by
          rw [e1]
          show 0 < (segR p (upN l p) ++ fullR L).length
          rw [List.length_append, segR_len]
          omega
        have zj : j < qs.reverse.length := by
          by_cases z2 : j < qs.reverse.length
          · exact z2
          · rw [List.drop_eq_nil_of_le (as := qs.reverse) (i := j) (by omega)] at hlen
            have z0 : (seqR ([] : List Pc) r).length = 0 := rfl
            omega
        obtain ⟨q, M, e2⟩ := drop_cases _ j zj
        have gq := hB q (List.mem_of_getElem? (drop_at e2).1)
        have ql := pos r q gq
        refine ⟨[], ?_, ?_⟩
        · have dz : decide ((i : Int) < ((ps.reverse.map pcD).length : Nat)) = true := decide_eq_true (by rw [List.length_map]; omega)
          simp only [mFun_eq', mSeq_eq, mIfS, mRet, mRetN, mAsg, mPar, mExpr, mSkip, mBrk, mCnt, mBad, mRaise, outE_ok, outT_ok, outE_er, seqO_nx, seqO_rt, seqO_er, retO_rt, retO_nx, retO_er, Res.bind_ok, Res.bind_er, Res.bind_bad, mVar_0, mVar_s, mVarI_0, mVarI_s, strip_ref, strip_non, strip_bl, strip_int, strip_str, strip_lst, strip_tup, strip_obj, strip_lck, strip_idn, mC, mBin, mUn, mTst, mCB, mCons, mNil, mStar, mAnd, mOr, mAndT, mOrT, mNotT, mIf, mTru, truV, mTup, mLst, ds?, ds?_map, mCall, withD, mFld, getF_o, getF_r, oNeg, oNot, oAbs, oMax, oMin, oI1, oI2, oInt, add_ii, sub_ii, lt_ii, le_ii, gt_ii, ge_ii, eq_ii, ne_ii, gN, gT_tup, gL_lst, gsC_cons, gsN_nil, List.map_cons, List.map_nil, List.length_cons, List.length_nil, List.cons_append, List.nil_append, List.append_nil, List.replicate_zero, List.replicate_succ, List.set_cons_zero, List.set_cons_succ, List.zip_cons_cons, List.zip_nil_right, List.foldl_cons, List.foldl_nil, Option.map_some, Option.map_none, Option.bind_some, Nat.reduceAdd, Nat.reduceSub, Nat.reduceEqDiff, Nat.reduceLT, Nat.reduceLeDiff, String.reduceEq, reduceCtorEq, Int.reduceLT, Int.reduceLE, Int.reduceEq, Int.reduceAdd, Int.reduceSub, Int.reduceNeg, Int.reduceMul, String.reduceBEq, decide_true, decide_false, if_true, if_false, ite_true, ite_false, Bool.false_eq_true, Bool.not_true, Bool.not_false, Bool.true_and, Bool.false_and, Bool.and_true, Bool.and_false, Bool.true_or, Bool.false_or, Bool.or_true, Bool.or_false, lc2_compared, cE, len_lst, dz]
        · rw [hc, e1, e2]
          rcases turn_ok hA hB e1 e2 (some (.d (gnD s g ps))) (some (.d (gnD s' g' qs))) e f d h k with ⟨st1, t⟩ | ⟨b, e', f', d', h', k', hb, t, hev⟩
          · exact .inr ⟨_, _, t, rfl⟩
          · left
            have x1 := seq_step (b := b) (l := l) e1 (by omega)
            have x2 := seq_step (b := b) (l := r) e2 (by omega)
            have xe : (List.range b).map (fa q (upN r q)) = (List.range b).map (fa p (upN l p)) := List.map_congr_left fun d hd => (hev d (List.mem_range.mp hd)).symm
            rw [xe] at x2
            rw [e1, e2] at hlen
            refine ⟨_, [], _, t, ?_, rfl, _, _, _, _, _, _, _, _, _, rfl, rfl, ?_, ?_, ?_, ?_⟩
            · rcases Nat.le_total (upN l p) (upN r q) with c | c
              · have : upN l p - b = 0 := by omega
                rw [if_pos this]
                split <;> omega
              · have : upN r q - b = 0 := by omega
                rw [if_pos this]
                split <;> omega
            · intro ne
              rw [if_neg ne]
              exact z
            · intro ne
              rw [if_neg ne]
              exact zj
            · rw [x1, x2, List.length_append, List.length_append] at hlen
              omega
            · rw [x1, x2, cmpL_app]
      · left
        have il : l = 0 := by
          by_cases q : l = 0
          · exact q
          · exact absurd (hi1 q) z
        have e0 : ps.reverse.drop i = [] := List.drop_eq_nil_of_le (by omega)
        refine ⟨?_, rfl, ?_⟩
        · have dz : decide ((i : Int) < ((ps.reverse.map pcD).length : Nat)) = false := decide_eq_false (by rw [List.length_map]; omega)
          simp only [mFun_eq', mSeq_eq, mIfS, mRet, mRetN, mAsg, mPar, mExpr, mSkip, mBrk, mCnt, mBad, mRaise, outE_ok, outT_ok, outE_er, seqO_nx, seqO_rt, seqO_er, retO_rt, retO_nx, retO_er, Res.bind_ok, Res.bind_er, Res.bind_bad, mVar_0, mVar_s, mVarI_0, mVarI_s, strip_ref, strip_non, strip_bl, strip_int, strip_str, strip_lst, strip_tup, strip_obj, strip_lck, strip_idn, mC, mBin, mUn, mTst, mCB, mCons, mNil, mStar, mAnd, mOr, mAndT, mOrT, mNotT, mIf, mTru, truV, mTup, mLst, ds?, ds?_map, mCall, withD, mFld, getF_o, getF_r, oNeg, oNot, oAbs, oMax, oMin, oI1, oI2, oInt, add_ii, sub_ii, lt_ii, le_ii, gt_ii, ge_ii, eq_ii, ne_ii, gN, gT_tup, gL_lst, gsC_cons, gsN_nil, List.map_cons, List.map_nil, List.length_cons, List.length_nil, List.cons_append, List.nil_append, List.append_nil, List.replicate_zero, List.replicate_succ, List.set_cons_zero, List.set_cons_succ, List.zip_cons_cons, List.zip_nil_right, List.foldl_cons, List.foldl_nil, Option.map_some, Option.map_none, Option.bind_some, Nat.reduceAdd, Nat.reduceSub, Nat.reduceEqDiff, Nat.reduceLT, Nat.reduceLeDiff, String.reduceEq, reduceCtorEq, Int.reduceLT, Int.reduceLE, Int.reduceEq, Int.reduceAdd, Int.reduceSub, Int.reduceNeg, Int.reduceMul, String.reduceBEq, decide_true, decide_false, if_true, if_false, ite_true, ite_false, Bool.false_eq_true, Bool.not_true, Bool.not_false, Bool.true_and, Bool.false_and, Bool.and_true, Bool.and_false, Bool.true_or, Bool.false_or, Bool.or_true, Bool.or_false, lc2_compared, cE, len_lst, dz]
        · rw [hc, e0]
          rfl) (ρ := cE (some (.d (gnD s g ps))) (some (.d (gnD s' g' qs))) ps.reverse qs.reverse (0 : Nat) (0 : Nat) (0 : Nat) (0 : Nat) none none none none none) (st := [])
    ⟨rfl, 0, 0, 0, 0, none, none, none, none, none, rfl, rfl, fun z => absurd rfl z, fun z => absurd rfl z, by rw [List.drop_zero, List.drop_zero, seqR0, seqR0]; exact hl, by rw [List.drop_zero, List.drop_zero, seqR0, seqR0]⟩
  have pp := p_pieces (s := s) (g := g) (ps := ps) []
  have pq := p_pieces (s := s') (g := g') (ps := qs) []
  have c4 : (4 ≤ cap) = True := eq_true (by decide)
  rcases o with ⟨ρ1, st1, o1, rfl, o2⟩ | ⟨v, st1, o1, rfl⟩
  · refine pureF_d (st1 := []) rfl ?_
    unfold m_compared
    simp only [mFun_eq', mSeq_eq, mIfS, mRet, mRetN, mAsg, mPar, mExpr, mSkip, mBrk, mCnt, mBad, mRaise, outE_ok, outT_ok, outE_er, seqO_nx, seqO_rt, seqO_er, retO_rt, retO_nx, retO_er, Res.bind_ok, Res.bind_er, Res.bind_bad, mVar_0, mVar_s, mVarI_0, mVarI_s, strip_ref, strip_non, strip_bl, strip_int, strip_str, strip_lst, strip_tup, strip_obj, strip_lck, strip_idn, mC, mBin, mUn, mTst, mCB, mCons, mNil, mStar, mAnd, mOr, mAndT, mOrT, mNotT, mIf, mTru, truV, mTup, mLst, ds?, ds?_map, mCall, withD, mFld, getF_o, getF_r, oNeg, oNot, oAbs, oMax, oMin, oI1, oI2, oInt, add_ii, sub_ii, lt_ii, le_ii, gt_ii, ge_ii, eq_ii, ne_ii, gN, gT_tup, gL_lst, gsC_cons, gsN_nil, List.map_cons, List.map_nil, List.length_cons, List.length_nil, List.cons_append, List.nil_append, List.append_nil, List.replicate_zero, List.replicate_succ, List.set_cons_zero, List.set_cons_succ, List.zip_cons_cons, List.zip_nil_right, List.foldl_cons, List.foldl_nil, Option.map_some, Option.map_none, Option.bind_some, Nat.reduceAdd, Nat.reduceSub, Nat.reduceEqDiff, Nat.reduceLT, Nat.reduceLeDiff, String.reduceEq, reduceCtorEq, Int.reduceLT, Int.reduceLE, Int.reduceEq, Int.reduceAdd, Int.reduceSub, Int.reduceNeg, Int.reduceMul, String.reduceBEq, decide_true, decide_false, if_true, if_false, ite_true, ite_false, Bool.false_eq_true, Bool.not_true, Bool.not_false, Bool.true_and, Bool.false_and, Bool.and_true, Bool.and_false, Bool.true_or, Bool.false_or, Bool.or_true, Bool.or_false, strip_gn, mMeth, obj_gn, lk_pieces, and_self, pp, pq, oRev, c4]
    rw [← List.map_reverse, ← List.map_reverse]
    rw [o2]
    have o1' : mWhile lc2_compared lw1_compared [some (.d (gnD s g ps)), some (.d (gnD s' g' qs)), some (.d (.lst (ps.reverse.map pcD))), some (.d (.lst (qs.reverse.map pcD))), some (.d (.int 0)), some (.d (.int 0)), some (.d (.int 0)), some (.d (.int 0)), none, none, none, none, none] [] = .nx ρ1 [] := o1
    simp only [mFun_eq', mSeq_eq, mIfS, mRet, mRetN, mAsg, mPar, mExpr, mSkip, mBrk, mCnt, mBad, mRaise, outE_ok, outT_ok, outE_er, seqO_nx, seqO_rt, seqO_er, retO_rt, retO_nx, retO_er, Res.bind_ok, Res.bind_er, Res.bind_bad, mVar_0, mVar_s, mVarI_0, mVarI_s, strip_ref, strip_non, strip_bl, strip_int, strip_str, strip_lst, strip_tup, strip_obj, strip_lck, strip_idn, mC, mBin, mUn, mTst, mCB, mCons, mNil, mStar, mAnd, mOr, mAndT, mOrT, mNotT, mIf, mTru, truV, mTup, mLst, ds?, ds?_map, mCall, withD, mFld, getF_o, getF_r, oNeg, oNot, oAbs, oMax, oMin, oI1, oI2, oInt, add_ii, sub_ii, lt_ii, le_ii, gt_ii, ge_ii, eq_ii, ne_ii, gN, gT_tup, gL_lst, gsC_cons, gsN_nil, List.map_cons, List.map_nil, List.length_cons, List.length_nil, List.cons_append, List.nil_append, List.append_nil, List.replicate_zero, List.replicate_succ, List.set_cons_zero, List.set_cons_succ, List.zip_cons_cons, List.zip_nil_right, List.foldl_cons, List.foldl_nil, Option.map_some, Option.map_none, Option.bind_some, Nat.reduceAdd, Nat.reduceSub, Nat.reduceEqDiff, Nat.reduceLT, Nat.reduceLeDiff, String.reduceEq, reduceCtorEq, Int.reduceLT, Int.reduceLE, Int.reduceEq, Int.reduceAdd, Int.reduceSub, Int.reduceNeg, Int.reduceMul, String.reduceBEq, decide_true, decide_false, if_true, if_false, ite_true, ite_false, Bool.false_eq_true, Bool.not_true, Bool.not_false, Bool.true_and, Bool.false_and, Bool.and_true, Bool.and_false, Bool.true_or, Bool.false_or, Bool.or_true, Bool.or_false, o1']
  · refine pureF_d (st1 := st1) rfl ?_
    unfold m_compared
    simp only [mFun_eq', mSeq_eq, mIfS, mRet, mRetN, mAsg, mPar, mExpr, mSkip, mBrk, mCnt, mBad, mRaise, outE_ok, outT_ok, outE_er, seqO_nx, seqO_rt, seqO_er, retO_rt, retO_nx, retO_er, Res.bind_ok, Res.bind_er, Res.bind_bad, mVar_0, mVar_s, mVarI_0, mVarI_s, strip_ref, strip_non, strip_bl, strip_int, strip_str, strip_lst, strip_tup, strip_obj, strip_lck, strip_idn, mC, mBin, mUn, mTst, mCB, mCons, mNil, mStar, mAnd, mOr, mAndT, mOrT, mNotT, mIf, mTru, truV, mTup, mLst, ds?, ds?_map, mCall, withD, mFld, getF_o, getF_r, oNeg, oNot, oAbs, oMax, oMin, oI1, oI2, oInt, add_ii, sub_ii, lt_ii, le_ii, gt_ii, ge_ii, eq_ii, ne_ii, gN, gT_tup, gL_lst, gsC_cons, gsN_nil, List.map_cons, List.map_nil, List.length_cons, List.length_nil, List.cons_append, List.nil_append, List.append_nil, List.replicate_zero, List.replicate_succ, List.set_cons_zero, List.set_cons_succ, List.zip_cons_cons, List.zip_nil_right, List.foldl_cons, List.foldl_nil, Option.map_some, Option.map_none, Option.bind_some, Nat.reduceAdd, Nat.reduceSub, Nat.reduceEqDiff, Nat.reduceLT, Nat.reduceLeDiff, String.reduceEq, reduceCtorEq, Int.reduceLT, Int.reduceLE, Int.reduceEq, Int.reduceAdd, Int.reduceSub, Int.reduceNeg, Int.reduceMul, String.reduceBEq, decide_true, decide_false, if_true, if_false, ite_true, ite_false, Bool.false_eq_true, Bool.not_true, Bool.not_false, Bool.true_and, Bool.false_and, Bool.and_true, Bool.and_false, Bool.true_or, Bool.false_or, Bool.or_true, Bool.or_false, strip_gn, mMeth, obj_gn, lk_pieces, and_self, pp, pq, oRev, c4]
    rw [← List.map_reverse, ← List.map_reverse]
    have o1' : mWhile lc2_compared lw1_compared [some (.d (gnD s g ps)), some (.d (gnD s' g' qs)), some (.d (.lst (ps.reverse.map pcD))), some (.d (.lst (qs.reverse.map pcD))), some (.d (.int 0)), some (.d (.int 0)), some (.d (.int 0)), some (.d (.int 0)), none, none, none, none, none] [] = .rt (.d (.int (cmpL (fullR ps.reverse) (fullR qs.reverse)))) st1 := o1
    simp only [mFun_eq', mSeq_eq, mIfS, mRet, mRetN, mAsg, mPar, mExpr, mSkip, mBrk, mCnt, mBad, mRaise, outE_ok, outT_ok, outE_er, seqO_nx, seqO_rt, seqO_er, retO_rt, retO_nx, retO_er, Res.bind_ok, Res.bind_er, Res.bind_bad, mVar_0, mVar_s, mVarI_0, mVarI_s, strip_ref, strip_non, strip_bl, strip_int, strip_str, strip_lst, strip_tup, strip_obj, strip_lck, strip_idn, mC, mBin, mUn, mTst, mCB, mCons, mNil, mStar, mAnd, mOr, mAndT, mOrT, mNotT, mIf, mTru, truV, mTup, mLst, ds?, ds?_map, mCall, withD, mFld, getF_o, getF_r, oNeg, oNot, oAbs, oMax, oMin, oI1, oI2, oInt, add_ii, sub_ii, lt_ii, le_ii, gt_ii, ge_ii, eq_ii, ne_ii, gN, gT_tup, gL_lst, gsC_cons, gsN_nil, List.map_cons, List.map_nil, List.length_cons, List.length_nil, List.cons_append, List.nil_append, List.append_nil, List.replicate_zero, List.replicate_succ, List.set_cons_zero, List.set_cons_succ, List.zip_cons_cons, List.zip_nil_right, List.foldl_cons, List.foldl_nil, Option.map_some, Option.map_none, Option.bind_some, Nat.reduceAdd, Nat.reduceSub, Nat.reduceEqDiff, Nat.reduceLT, Nat.reduceLeDiff, String.reduceEq, reduceCtorEq, Int.reduceLT, Int.reduceLE, Int.reduceEq, Int.reduceAdd, Int.reduceSub, Int.reduceNeg, Int.reduceMul, String.reduceBEq, decide_true, decide_false, if_true, if_false, ite_true, ite_false, Bool.false_eq_true, Bool.not_true, Bool.not_false, Bool.true_and, Bool.false_and, Bool.and_true, Bool.and_false, Bool.true_or, Bool.false_or, Bool.or_true, Bool.or_false, o1']

/-! P53f: the order of great numbers is that of their integers -/
theorem rep_get (w : List Int) : ∀ (t i : Nat), i < t * w.length → (rep t w)[i]? = w[i % w.length]?
  | 0, i, h => by omega
  | t + 1, i, h => by
    have e : rep (t + 1) w = w ++ rep t w := by unfold rep; rw [List.replicate_succ, List.flatten_cons]
    rw [e]
    by_cases q : i < w.length
    · rw [List.getElem?_append_left q, Nat.mod_eq_of_lt q]
    · rw [List.getElem?_append_right (by omega), rep_get w t (i - w.length) (by rw [Nat.add_mul] at h; omega)]
      rw [show i % w.length = (i - w.length) % w.length from (Nat.mod_eq_sub_mod (by omega))]
theorem seg_rev {s : Int} {p : Pc} (h : GoodP s p) : segR p (pcN p) = (expd p).reverse := by
  apply List.ext_getElem?
  intro d
  unfold segR
  by_cases q : d < pcN p
  · have hl : d < (expd p).length := by rw [expd_len]; exact q
    rw [List.getElem?_map, List.getElem?_range q, List.getElem?_reverse hl, expd_len]
    have e := rep_get p.1 p.2 (pcN p - 1 - d) (by unfold pcN at *; rw [Nat.mul_comm p.2]; omega)
    rw [rep_expd] at e
    rw [e]
    have hk : (pcN p - 1 - d) % p.1.length < p.1.length := Nat.mod_lt _ h.l1
    rw [List.getElem?_eq_getElem hk]
    show some (fa p (pcN p) d) = _
    unfold fa
    rw [show (((pcN p : Nat) : Int) - 1 - (d : Int)) = ((pcN p - 1 - d : Nat) : Int) by omega, show (((pcN p - 1 - d : Nat) : Int) % (p.1.length : Int)) = (((pcN p - 1 - d) % p.1.length : Nat) : Int) from rfl, Int.toNat_natCast, List.getD_eq_getElem?_getD, List.getElem?_eq_getElem hk]
    rfl
  · rw [List.getElem?_eq_none (by simp; omega), List.getElem?_eq_none (by rw [List.length_reverse, expd_len]; omega)]
theorem full_rev {s : Int} {ps : List Pc} (h : ∀ p ∈ ps, GoodP s p) : fullR ps.reverse = (figs ps).reverse := by
  unfold fullR figs
  rw [List.reverse_flatten, List.map_reverse, List.map_map]
  congr 2
  apply List.map_congr_left
  intro p hp
  exact seg_rev (h p hp)
theorem cmp_val {s : Int} (hs : 0 < s) : ∀ {u v : List Int}, u.length = v.length → Dig s u → Dig s v → (cmpL u v = 0 ∧ u = v) ∨ (cmpL u v = 1 ∧ valL s v.reverse < valL s u.reverse) ∨ (cmpL u v = -1 ∧ valL s u.reverse < valL s v.reverse)
  | [], [], _, _, _ => .inl ⟨rfl, rfl⟩
  | x :: u, y :: v, hl, hu, hv => by
    have hl' : u.length = v.length := by simpa using hl
    have hu' : Dig s u := fun f hf => hu f (List.mem_cons_of_mem _ hf)
    have hv' : Dig s v := fun f hf => hv f (List.mem_cons_of_mem _ hf)
    obtain ⟨x1, x2⟩ := hu x (List.mem_cons_self ..)
    obtain ⟨y1, y2⟩ := hv y (List.mem_cons_self ..)
    have vx : valL s (x :: u).reverse = valL s u.reverse + s ^ u.length * x := by
      rw [List.reverse_cons, valL_app, List.length_reverse]
      simp [valL]
    have vy : valL s (y :: v).reverse = valL s v.reverse + s ^ u.length * y := by
      rw [List.reverse_cons, valL_app, List.length_reverse, hl']
      simp [valL]
    have bu := valL_bd hs (l := u.reverse) (fun f hf => hu' f (List.mem_reverse.mp hf))
    have bv := valL_bd hs (l := v.reverse) (fun f hf => hv' f (List.mem_reverse.mp hf))
    rw [List.length_reverse] at bu bv
    rw [← hl'] at bv
    have pw := pow_pos' hs u.length
    rw [vx, vy]
    by_cases q : x = y
    · subst q
      rw [cmpL, if_pos rfl]
      rcases cmp_val hs hl' hu' hv' with ⟨a, b⟩ | ⟨a, b⟩ | ⟨a, b⟩
      · exact .inl ⟨a, by rw [b]⟩
      · exact .inr (.inl ⟨a, by omega⟩)
      · exact .inr (.inr ⟨a, by omega⟩)
    · rw [cmpL, if_neg q]
      by_cases r : y < x
      · rw [if_pos r]
        refine .inr (.inl ⟨rfl, ?_⟩)
        have : s ^ u.length * (y + 1) ≤ s ^ u.length * x := Int.mul_le_mul_of_nonneg_left (by omega) (by omega)
        rw [Int.mul_add, Int.mul_one] at this
        omega
      · rw [if_neg r]
        refine .inr (.inr ⟨rfl, ?_⟩)
        have : s ^ u.length * (x + 1) ≤ s ^ u.length * y := Int.mul_le_mul_of_nonneg_left (by omega) (by omega)
        rw [Int.mul_add, Int.mul_one] at this
        omega
theorem last_figs {s : Int} : ∀ {ps : List Pc}, (∀ p ∈ ps, GoodP s p) → topOk ps → ps ≠ [] → ∃ l f, figs ps = l ++ [f] ∧ f ≠ 0 := by
  intro ps h ht hne
  obtain ⟨qs, p, rfl⟩ : ∃ qs p, ps = qs ++ [p] := ⟨ps.dropLast, ps.getLast hne, (List.dropLast_concat_getLast hne).symm⟩
  have gp := h p (by simp)
  have w0 : p.1 ≠ [] := by
    intro z
    have := gp.l1
    rw [z] at this
    simp at this
  obtain ⟨w, f, hw⟩ : ∃ w f, p.1 = w ++ [f] := ⟨p.1.dropLast, p.1.getLast w0, (List.dropLast_concat_getLast w0).symm⟩
  have hf : f ≠ 0 := ht p (by simp) f (by rw [hw]; simp)
  obtain ⟨t, ht2⟩ : ∃ t, p.2 = t + 1 := ⟨p.2 - 1, by have := gp.t1; omega⟩
  refine ⟨figs qs ++ (rep t p.1 ++ w), f, ?_, hf⟩
  rw [figs_app]
  have e : figs [p] = rep t p.1 ++ (w ++ [f]) := by
    have : figs [p] = rep p.2 p.1 := by simp [figs, expd, rep]
    rw [this, ht2, ← rep_add, ← hw]
    simp [rep]
  rw [e]
  simp
def numI (s g : Int) (ps : List Pc) : Int := g * valL s (figs ps)
theorem GN.low {s g : Int} {ps : List Pc} (h : GN s g ps) (hne : ps ≠ []) : 0 < nfig ps ∧ s ^ (nfig ps - 1) ≤ valL s (figs ps) := by
  obtain ⟨l, f, e, hf⟩ := last_figs h.gd.pc h.gd.top hne
  have hs : 0 < s := by have := h.s1; omega
  have dg := figs_dig h.gd.pc
  rw [e] at dg
  have f0 := dg f (by simp)
  have bl := valL_bd hs (l := l) (fun x hx => dg x (by simp [hx]))
  have ln : nfig ps = l.length + 1 := by rw [← figs_len, e]; simp
  refine ⟨by omega, ?_⟩
  rw [ln, e, valL_app, show valL s [f] = f by simp [valL], show l.length + 1 - 1 = l.length by omega]
  have : s ^ l.length * 1 ≤ s ^ l.length * f := Int.mul_le_mul_of_nonneg_left (by omega) (by have := pow_pos' hs l.length; omega)
  rw [Int.mul_one] at this
  omega
def ordI (s g1 g2 : Int) (ps qs : List Pc) : Int := if g1 ≠ g2 then (if g2 < g1 then 1 else -1) else if nfig ps ≠ nfig qs then (if nfig qs < nfig ps then g1 else -g1) else g1 * cmpL (fullR ps.reverse) (fullR qs.reverse)
theorem pow_le {s : Int} (hs : 1 ≤ s) {a b : Nat} (h : a ≤ b) : s ^ a ≤ s ^ b := by
  obtain ⟨c, rfl⟩ : ∃ c, b = a + c := ⟨b - a, by omega⟩
  rw [Int.pow_add]
  have h1 := pow_pos' (show 0 < s by omega) a
  have h2 := pow_pos' (show 0 < s by omega) c
  have : s ^ a * 1 ≤ s ^ a * s ^ c := Int.mul_le_mul_of_nonneg_left (by omega) (by omega)
  omega
theorem ord_num {s g1 g2 : Int} {ps qs : List Pc} (h1 : GN s g1 ps) (h2 : GN s g2 qs) : (ordI s g1 g2 ps qs = 0 ↔ numI s g1 ps = numI s g2 qs) ∧ (ordI s g1 g2 ps qs < 0 ↔ numI s g1 ps < numI s g2 qs) := by
  have hs : 0 < s := by have := h1.s1; omega
  have b1 := valL_bd hs (figs_dig h1.gd.pc)
  have b2 := valL_bd hs (figs_dig h2.gd.pc)
  rw [figs_len] at b1 b2
  have pos1 : ps ≠ [] → 0 < valL s (figs ps) := fun z => by have := (h1.low z).2; have := pow_pos' hs (nfig ps - 1); omega
  have pos2 : qs ≠ [] → 0 < valL s (figs qs) := fun z => by have := (h2.low z).2; have := pow_pos' hs (nfig qs - 1); omega
  have sg1 := h1.sg
  have sg2 := h2.sg
  have n1 : g1 ≠ 0 → ps ≠ [] := fun z e => z (h1.g0 e)
  have n2 : g2 ≠ 0 → qs ≠ [] := fun z e => z (h2.g0 e)
  unfold ordI numI
  by_cases q : g1 = g2
  · subst q
    rw [if_neg (by omega)]
    by_cases r : nfig ps = nfig qs
    · rw [if_neg (by omega)]
      have hl : (fullR ps.reverse).length = (fullR qs.reverse).length := by rw [full_rev h1.gd.pc, full_rev h2.gd.pc, List.length_reverse, List.length_reverse, figs_len, figs_len, r]
      have c := cmp_val hs hl (fun f hf => by rw [full_rev h1.gd.pc] at hf; exact figs_dig h1.gd.pc f (List.mem_reverse.mp hf)) (fun f hf => by rw [full_rev h2.gd.pc] at hf; exact figs_dig h2.gd.pc f (List.mem_reverse.mp hf))
      rw [full_rev h1.gd.pc, full_rev h2.gd.pc] at c ⊢
      rw [List.reverse_reverse, List.reverse_reverse] at c
      rcases c with ⟨a, b⟩ | ⟨a, b⟩ | ⟨a, b⟩
      · have b : figs ps = figs qs := List.reverse_inj.mp b
        rw [a, b]
        omega
      · rw [a]
        rcases sg1 with rfl | rfl | rfl <;> omega
      · rw [a]
        rcases sg1 with rfl | rfl | rfl <;> omega
    · rw [if_pos r]
      by_cases g0 : g1 = 0
      · by_cases e1 : ps = []
        · by_cases e2 : qs = []
          · subst e1 e2; exact absurd rfl r
          · have := h2.g1 e2; omega
        · have := h1.g1 e1; omega
      · have l1 := h1.low (n1 g0)
        have l2 := h2.low (n2 g0)
        by_cases k : nfig qs < nfig ps
        · rw [if_pos k]
          have := pow_le (s := s) (by omega) (a := nfig qs) (b := nfig ps - 1) (by omega)
          rcases sg1 with rfl | rfl | rfl <;> omega
        · rw [if_neg k]
          have := pow_le (s := s) (by omega) (a := nfig ps) (b := nfig qs - 1) (by omega)
          rcases sg1 with rfl | rfl | rfl <;> omega
  · rw [if_pos q]
    by_cases k : g2 < g1
    · rw [if_pos k]
      rcases sg1 with rfl | rfl | rfl <;> rcases sg2 with rfl | rfl | rfl <;> first | omega | (have := pos1 (n1 (by decide)); omega) | (have := pos2 (n2 (by decide)); omega)
    · rw [if_neg k]
      rcases sg1 with rfl | rfl | rfl <;> rcases sg2 with rfl | rfl | rfl <;> first | omega | (have := pos1 (n1 (by decide)); omega) | (have := pos2 (n2 (by decide)); omega)
theorem p_order {s g1 g2 : Int} {ps qs : List Pc} (h1 : GN s g1 ps) (h2 : GN s g2 qs) (st : Sto) : pureF m_GreatNumber_order [.d (gnD s g1 ps), .d (gnD s g2 qs)] st = .ok (.d (.int (ordI s g1 g2 ps qs))) st := by
  refine pureF_d (st1 := []) rfl ?_
  have f1 := p_figures (g := g1) h1.gd.pc h1.gd.n []
  have f2 := p_figures (g := g2) h2.gd.pc h2.gd.n []
  unfold m_GreatNumber_order ordI
  by_cases q : g1 = g2
  · have dq : decide (g1 = g2) = true := decide_eq_true q
    by_cases r : nfig ps = nfig qs
    · have dr : decide ((nfig ps : Int) = (nfig qs : Int)) = true := decide_eq_true (by omega)
      have hl : (fullR ps.reverse).length = (fullR qs.reverse).length := by rw [full_rev h1.gd.pc, full_rev h2.gd.pc, List.length_reverse, List.length_reverse, figs_len, figs_len, r]
      have c := p_compared (s' := s) (g := g1) (g' := g2) h1.gd.pc h2.gd.pc hl []
      have hs : 0 < s := by have := h1.s1; omega
      have cv := cmp_val hs hl (fun f hf => by rw [full_rev h1.gd.pc] at hf; exact figs_dig h1.gd.pc f (List.mem_reverse.mp hf)) (fun f hf => by rw [full_rev h2.gd.pc] at hf; exact figs_dig h2.gd.pc f (List.mem_reverse.mp hf))
      have mu := mul_ok (i := g1) (j := cmpL (fullR ps.reverse) (fullR qs.reverse)) [] (cmulw (by have := h1.sg; omega) (by omega))
      rw [if_neg (by omega), if_neg (by omega)]
      simp only [mFun_eq', mSeq_eq, mIfS, mRet, mRetN, mAsg, mPar, mExpr, mSkip, mBrk, mCnt, mBad, mRaise, outE_ok, outT_ok, outE_er, seqO_nx, seqO_rt, seqO_er, retO_rt, retO_nx, retO_er, Res.bind_ok, Res.bind_er, Res.bind_bad, mVar_0, mVar_s, mVarI_0, mVarI_s, strip_ref, strip_non, strip_bl, strip_int, strip_str, strip_lst, strip_tup, strip_obj, strip_lck, strip_idn, mC, mBin, mUn, mTst, mCB, mCons, mNil, mStar, mAnd, mOr, mAndT, mOrT, mNotT, mIf, mTru, truV, mTup, mLst, ds?, ds?_map, mCall, withD, mFld, getF_o, getF_r, oNeg, oNot, oAbs, oMax, oMin, oI1, oI2, oInt, add_ii, sub_ii, lt_ii, le_ii, gt_ii, ge_ii, eq_ii, ne_ii, gN, gT_tup, gL_lst, gsC_cons, gsN_nil, List.map_cons, List.map_nil, List.length_cons, List.length_nil, List.cons_append, List.nil_append, List.append_nil, List.replicate_zero, List.replicate_succ, List.set_cons_zero, List.set_cons_succ, List.zip_cons_cons, List.zip_nil_right, List.foldl_cons, List.foldl_nil, Option.map_some, Option.map_none, Option.bind_some, Nat.reduceAdd, Nat.reduceSub, Nat.reduceEqDiff, Nat.reduceLT, Nat.reduceLeDiff, String.reduceEq, reduceCtorEq, Int.reduceLT, Int.reduceLE, Int.reduceEq, Int.reduceAdd, Int.reduceSub, Int.reduceNeg, Int.reduceMul, String.reduceBEq, decide_true, decide_false, if_true, if_false, ite_true, ite_false, Bool.false_eq_true, Bool.not_true, Bool.not_false, Bool.true_and, Bool.false_and, Bool.and_true, Bool.and_false, Bool.true_or, Bool.false_or, Bool.or_true, Bool.or_false, strip_gn, sign_gn, dq, mProp, noEr, obj_gn, f1, f2, dr, c, mu]
    · have dr : decide ((nfig ps : Int) = (nfig qs : Int)) = false := decide_eq_false (by omega)
      rw [if_neg (by omega), if_pos r]
      by_cases k : nfig qs < nfig ps
      · have dk : decide ((nfig qs : Int) < (nfig ps : Int)) = true := decide_eq_true (by omega)
        rw [if_pos k]
        simp only [mFun_eq', mSeq_eq, mIfS, mRet, mRetN, mAsg, mPar, mExpr, mSkip, mBrk, mCnt, mBad, mRaise, outE_ok, outT_ok, outE_er, seqO_nx, seqO_rt, seqO_er, retO_rt, retO_nx, retO_er, Res.bind_ok, Res.bind_er, Res.bind_bad, mVar_0, mVar_s, mVarI_0, mVarI_s, strip_ref, strip_non, strip_bl, strip_int, strip_str, strip_lst, strip_tup, strip_obj, strip_lck, strip_idn, mC, mBin, mUn, mTst, mCB, mCons, mNil, mStar, mAnd, mOr, mAndT, mOrT, mNotT, mIf, mTru, truV, mTup, mLst, ds?, ds?_map, mCall, withD, mFld, getF_o, getF_r, oNeg, oNot, oAbs, oMax, oMin, oI1, oI2, oInt, add_ii, sub_ii, lt_ii, le_ii, gt_ii, ge_ii, eq_ii, ne_ii, gN, gT_tup, gL_lst, gsC_cons, gsN_nil, List.map_cons, List.map_nil, List.length_cons, List.length_nil, List.cons_append, List.nil_append, List.append_nil, List.replicate_zero, List.replicate_succ, List.set_cons_zero, List.set_cons_succ, List.zip_cons_cons, List.zip_nil_right, List.foldl_cons, List.foldl_nil, Option.map_some, Option.map_none, Option.bind_some, Nat.reduceAdd, Nat.reduceSub, Nat.reduceEqDiff, Nat.reduceLT, Nat.reduceLeDiff, String.reduceEq, reduceCtorEq, Int.reduceLT, Int.reduceLE, Int.reduceEq, Int.reduceAdd, Int.reduceSub, Int.reduceNeg, Int.reduceMul, String.reduceBEq, decide_true, decide_false, if_true, if_false, ite_true, ite_false, Bool.false_eq_true, Bool.not_true, Bool.not_false, Bool.true_and, Bool.false_and, Bool.and_true, Bool.and_false, Bool.true_or, Bool.false_or, Bool.or_true, Bool.or_false, strip_gn, sign_gn, dq, mProp, noEr, obj_gn, f1, f2, dr, dk]
      · have dk : decide ((nfig qs : Int) < (nfig ps : Int)) = false := decide_eq_false (by omega)
        rw [if_neg k]
        simp only [mFun_eq', mSeq_eq, mIfS, mRet, mRetN, mAsg, mPar, mExpr, mSkip, mBrk, mCnt, mBad, mRaise, outE_ok, outT_ok, outE_er, seqO_nx, seqO_rt, seqO_er, retO_rt, retO_nx, retO_er, Res.bind_ok, Res.bind_er, Res.bind_bad, mVar_0, mVar_s, mVarI_0, mVarI_s, strip_ref, strip_non, strip_bl, strip_int, strip_str, strip_lst, strip_tup, strip_obj, strip_lck, strip_idn, mC, mBin, mUn, mTst, mCB, mCons, mNil, mStar, mAnd, mOr, mAndT, mOrT, mNotT, mIf, mTru, truV, mTup, mLst, ds?, ds?_map, mCall, withD, mFld, getF_o, getF_r, oNeg, oNot, oAbs, oMax, oMin, oI1, oI2, oInt, add_ii, sub_ii, lt_ii, le_ii, gt_ii, ge_ii, eq_ii, ne_ii, gN, gT_tup, gL_lst, gsC_cons, gsN_nil, List.map_cons, List.map_nil, List.length_cons, List.length_nil, List.cons_append, List.nil_append, List.append_nil, List.replicate_zero, List.replicate_succ, List.set_cons_zero, List.set_cons_succ, List.zip_cons_cons, List.zip_nil_right, List.foldl_cons, List.foldl_nil, Option.map_some, Option.map_none, Option.bind_some, Nat.reduceAdd, Nat.reduceSub, Nat.reduceEqDiff, Nat.reduceLT, Nat.reduceLeDiff, String.reduceEq, reduceCtorEq, Int.reduceLT, Int.reduceLE, Int.reduceEq, Int.reduceAdd, Int.reduceSub, Int.reduceNeg, Int.reduceMul, String.reduceBEq, decide_true, decide_false, if_true, if_false, ite_true, ite_false, Bool.false_eq_true, Bool.not_true, Bool.not_false, Bool.true_and, Bool.false_and, Bool.and_true, Bool.and_false, Bool.true_or, Bool.false_or, Bool.or_true, Bool.or_false, strip_gn, sign_gn, dq, mProp, noEr, obj_gn, f1, f2, dr, dk]
  · have dq : decide (g1 = g2) = false := decide_eq_false q
    rw [if_pos q]
    by_cases k : g2 < g1
    · rw [if_pos k]
      simp only [mFun_eq', mSeq_eq, mIfS, mRet, mRetN, mAsg, mPar, mExpr, mSkip, mBrk, mCnt, mBad, mRaise, outE_ok, outT_ok, outE_er, seqO_nx, seqO_rt, seqO_er, retO_rt, retO_nx, retO_er, Res.bind_ok, Res.bind_er, Res.bind_bad, mVar_0, mVar_s, mVarI_0, mVarI_s, strip_ref, strip_non, strip_bl, strip_int, strip_str, strip_lst, strip_tup, strip_obj, strip_lck, strip_idn, mC, mBin, mUn, mTst, mCB, mCons, mNil, mStar, mAnd, mOr, mAndT, mOrT, mNotT, mIf, mTru, truV, mTup, mLst, ds?, ds?_map, mCall, withD, mFld, getF_o, getF_r, oNeg, oNot, oAbs, oMax, oMin, oI1, oI2, oInt, add_ii, sub_ii, lt_ii, le_ii, gt_ii, ge_ii, eq_ii, ne_ii, gN, gT_tup, gL_lst, gsC_cons, gsN_nil, List.map_cons, List.map_nil, List.length_cons, List.length_nil, List.cons_append, List.nil_append, List.append_nil, List.replicate_zero, List.replicate_succ, List.set_cons_zero, List.set_cons_succ, List.zip_cons_cons, List.zip_nil_right, List.foldl_cons, List.foldl_nil, Option.map_some, Option.map_none, Option.bind_some, Nat.reduceAdd, Nat.reduceSub, Nat.reduceEqDiff, Nat.reduceLT, Nat.reduceLeDiff, String.reduceEq, reduceCtorEq, Int.reduceLT, Int.reduceLE, Int.reduceEq, Int.reduceAdd, Int.reduceSub, Int.reduceNeg, Int.reduceMul, String.reduceBEq, decide_true, decide_false, if_true, if_false, ite_true, ite_false, Bool.false_eq_true, Bool.not_true, Bool.not_false, Bool.true_and, Bool.false_and, Bool.and_true, Bool.and_false, Bool.true_or, Bool.false_or, Bool.or_true, Bool.or_false, strip_gn, sign_gn, dq, decide_eq_true k]
    · rw [if_neg k]
      simp only [mFun_eq', mSeq_eq, mIfS, mRet, mRetN, mAsg, mPar, mExpr, mSkip, mBrk, mCnt, mBad, mRaise, outE_ok, outT_ok, outE_er, seqO_nx, seqO_rt, seqO_er, retO_rt, retO_nx, retO_er, Res.bind_ok, Res.bind_er, Res.bind_bad, mVar_0, mVar_s, mVarI_0, mVarI_s, strip_ref, strip_non, strip_bl, strip_int, strip_str, strip_lst, strip_tup, strip_obj, strip_lck, strip_idn, mC, mBin, mUn, mTst, mCB, mCons, mNil, mStar, mAnd, mOr, mAndT, mOrT, mNotT, mIf, mTru, truV, mTup, mLst, ds?, ds?_map, mCall, withD, mFld, getF_o, getF_r, oNeg, oNot, oAbs, oMax, oMin, oI1, oI2, oInt, add_ii, sub_ii, lt_ii, le_ii, gt_ii, ge_ii, eq_ii, ne_ii, gN, gT_tup, gL_lst, gsC_cons, gsN_nil, List.map_cons, List.map_nil, List.length_cons, List.length_nil, List.cons_append, List.nil_append, List.append_nil, List.replicate_zero, List.replicate_succ, List.set_cons_zero, List.set_cons_succ, List.zip_cons_cons, List.zip_nil_right, List.foldl_cons, List.foldl_nil, Option.map_some, Option.map_none, Option.bind_some, Nat.reduceAdd, Nat.reduceSub, Nat.reduceEqDiff, Nat.reduceLT, Nat.reduceLeDiff, String.reduceEq, reduceCtorEq, Int.reduceLT, Int.reduceLE, Int.reduceEq, Int.reduceAdd, Int.reduceSub, Int.reduceNeg, Int.reduceMul, String.reduceBEq, decide_true, decide_false, if_true, if_false, ite_true, ite_false, Bool.false_eq_true, Bool.not_true, Bool.not_false, Bool.true_and, Bool.false_and, Bool.and_true, Bool.and_false, Bool.true_or, Bool.false_or, Bool.or_true, Bool.or_false, strip_gn, sign_gn, dq, decide_eq_false k]
theorem isi_gn (s g : Int) (ps : List Pc) (st : Sto) : oIsi [.d (gnD s g ps), .d (.cls "GreatNumber")] st = .ok (.d (.bl true)) st := rfl
theorem p_eq {s g1 g2 : Int} {ps qs : List Pc} (h1 : GN s g1 ps) (h2 : GN s g2 qs) (st : Sto) : pureF m_GreatNumber___eq__ [.d (gnD s g1 ps), .d (gnD s g2 qs)] st = .ok (.d (.bl (decide (numI s g1 ps = numI s g2 qs)))) st := by
  refine pureF_d (st1 := []) rfl ?_
  have o := p_order h1 h2 []
  have e : decide (ordI s g1 g2 ps qs = 0) = decide (numI s g1 ps = numI s g2 qs) := decide_eq_decide.mpr (ord_num h1 h2).1
  unfold m_GreatNumber___eq__
  simp only [mFun_eq', mSeq_eq, mIfS, mRet, mRetN, mAsg, mPar, mExpr, mSkip, mBrk, mCnt, mBad, mRaise, outE_ok, outT_ok, outE_er, seqO_nx, seqO_rt, seqO_er, retO_rt, retO_nx, retO_er, Res.bind_ok, Res.bind_er, Res.bind_bad, mVar_0, mVar_s, mVarI_0, mVarI_s, strip_ref, strip_non, strip_bl, strip_int, strip_str, strip_lst, strip_tup, strip_obj, strip_lck, strip_idn, mC, mBin, mUn, mTst, mCB, mCons, mNil, mStar, mAnd, mOr, mAndT, mOrT, mNotT, mIf, mTru, truV, mTup, mLst, ds?, ds?_map, mCall, withD, mFld, getF_o, getF_r, oNeg, oNot, oAbs, oMax, oMin, oI1, oI2, oInt, add_ii, sub_ii, lt_ii, le_ii, gt_ii, ge_ii, eq_ii, ne_ii, gN, gT_tup, gL_lst, gsC_cons, gsN_nil, List.map_cons, List.map_nil, List.length_cons, List.length_nil, List.cons_append, List.nil_append, List.append_nil, List.replicate_zero, List.replicate_succ, List.set_cons_zero, List.set_cons_succ, List.zip_cons_cons, List.zip_nil_right, List.foldl_cons, List.foldl_nil, Option.map_some, Option.map_none, Option.bind_some, Nat.reduceAdd, Nat.reduceSub, Nat.reduceEqDiff, Nat.reduceLT, Nat.reduceLeDiff, String.reduceEq, reduceCtorEq, Int.reduceLT, Int.reduceLE, Int.reduceEq, Int.reduceAdd, Int.reduceSub, Int.reduceNeg, Int.reduceMul, String.reduceBEq, decide_true, decide_false, if_true, if_false, ite_true, ite_false, Bool.false_eq_true, Bool.not_true, Bool.not_false, Bool.true_and, Bool.false_and, Bool.and_true, Bool.and_false, Bool.true_or, Bool.false_or, Bool.or_true, Bool.or_false, strip_gn, isi_gn, size_gn, decide_eq_true (rfl : s = s), mMeth, obj_gn, lk_order, and_self, o, e]
theorem p_eqN {s g1 : Int} {ps : List Pc} {x : D} (hx : oIsi [.d x, .d (.cls "GreatNumber")] [] = .ok (.d (.bl false)) []) (hs : strip (.d x) = .d x) (st : Sto) : pureF m_GreatNumber___eq__ [.d (gnD s g1 ps), .d x] st = .ok (.d (.bl false)) st := by
  refine pureF_d (st1 := []) rfl ?_
  unfold m_GreatNumber___eq__
  simp only [mFun_eq', mSeq_eq, mIfS, mRet, mRetN, mAsg, mPar, mExpr, mSkip, mBrk, mCnt, mBad, mRaise, outE_ok, outT_ok, outE_er, seqO_nx, seqO_rt, seqO_er, retO_rt, retO_nx, retO_er, Res.bind_ok, Res.bind_er, Res.bind_bad, mVar_0, mVar_s, mVarI_0, mVarI_s, strip_ref, strip_non, strip_bl, strip_int, strip_str, strip_lst, strip_tup, strip_obj, strip_lck, strip_idn, mC, mBin, mUn, mTst, mCB, mCons, mNil, mStar, mAnd, mOr, mAndT, mOrT, mNotT, mIf, mTru, truV, mTup, mLst, ds?, ds?_map, mCall, withD, mFld, getF_o, getF_r, oNeg, oNot, oAbs, oMax, oMin, oI1, oI2, oInt, add_ii, sub_ii, lt_ii, le_ii, gt_ii, ge_ii, eq_ii, ne_ii, gN, gT_tup, gL_lst, gsC_cons, gsN_nil, List.map_cons, List.map_nil, List.length_cons, List.length_nil, List.cons_append, List.nil_append, List.append_nil, List.replicate_zero, List.replicate_succ, List.set_cons_zero, List.set_cons_succ, List.zip_cons_cons, List.zip_nil_right, List.foldl_cons, List.foldl_nil, Option.map_some, Option.map_none, Option.bind_some, Nat.reduceAdd, Nat.reduceSub, Nat.reduceEqDiff, Nat.reduceLT, Nat.reduceLeDiff, String.reduceEq, reduceCtorEq, Int.reduceLT, Int.reduceLE, Int.reduceEq, Int.reduceAdd, Int.reduceSub, Int.reduceNeg, Int.reduceMul, String.reduceBEq, decide_true, decide_false, if_true, if_false, ite_true, ite_false, Bool.false_eq_true, Bool.not_true, Bool.not_false, Bool.true_and, Bool.false_and, Bool.and_true, Bool.and_false, Bool.true_or, Bool.false_or, Bool.or_true, Bool.or_false, strip_gn, hs, hx]
theorem p_lt {s g1 g2 : Int} {ps qs : List Pc} (h1 : GN s g1 ps) (h2 : GN s g2 qs) (st : Sto) : pureF m_GreatNumber___lt__ [.d (gnD s g1 ps), .d (gnD s g2 qs)] st = .ok (.d (.bl (decide (numI s g1 ps < numI s g2 qs)))) st := by
  refine pureF_d (st1 := []) rfl ?_
  have o := p_order h1 h2 []
  have e : decide (ordI s g1 g2 ps qs < 0) = decide (numI s g1 ps < numI s g2 qs) := decide_eq_decide.mpr (ord_num h1 h2).2
  unfold m_GreatNumber___lt__
  simp only [mFun_eq', mSeq_eq, mIfS, mRet, mRetN, mAsg, mPar, mExpr, mSkip, mBrk, mCnt, mBad, mRaise, outE_ok, outT_ok, outE_er, seqO_nx, seqO_rt, seqO_er, retO_rt, retO_nx, retO_er, Res.bind_ok, Res.bind_er, Res.bind_bad, mVar_0, mVar_s, mVarI_0, mVarI_s, strip_ref, strip_non, strip_bl, strip_int, strip_str, strip_lst, strip_tup, strip_obj, strip_lck, strip_idn, mC, mBin, mUn, mTst, mCB, mCons, mNil, mStar, mAnd, mOr, mAndT, mOrT, mNotT, mIf, mTru, truV, mTup, mLst, ds?, ds?_map, mCall, withD, mFld, getF_o, getF_r, oNeg, oNot, oAbs, oMax, oMin, oI1, oI2, oInt, add_ii, sub_ii, lt_ii, le_ii, gt_ii, ge_ii, eq_ii, ne_ii, gN, gT_tup, gL_lst, gsC_cons, gsN_nil, List.map_cons, List.map_nil, List.length_cons, List.length_nil, List.cons_append, List.nil_append, List.append_nil, List.replicate_zero, List.replicate_succ, List.set_cons_zero, List.set_cons_succ, List.zip_cons_cons, List.zip_nil_right, List.foldl_cons, List.foldl_nil, Option.map_some, Option.map_none, Option.bind_some, Nat.reduceAdd, Nat.reduceSub, Nat.reduceEqDiff, Nat.reduceLT, Nat.reduceLeDiff, String.reduceEq, reduceCtorEq, Int.reduceLT, Int.reduceLE, Int.reduceEq, Int.reduceAdd, Int.reduceSub, Int.reduceNeg, Int.reduceMul, String.reduceBEq, decide_true, decide_false, if_true, if_false, ite_true, ite_false, Bool.false_eq_true, Bool.not_true, Bool.not_false, Bool.true_and, Bool.false_and, Bool.and_true, Bool.and_false, Bool.true_or, Bool.false_or, Bool.or_true, Bool.or_false, strip_gn, isi_gn, size_gn, decide_eq_true (rfl : s = s), mMeth, obj_gn, lk_order, and_self, o, e]
theorem p_ltN {s s' g1 g2 : Int} {ps qs : List Pc} (hne : s ≠ s') (st : Sto) : pureF m_GreatNumber___lt__ [.d (gnD s g1 ps), .d (gnD s' g2 qs)] st = .er "Unlike" [("other", .d (.int s')), ("one", .d (.int s))] st := by
  refine pureF_e (st1 := []) rfl (fs := [("other", .d (.int s')), ("one", .d (.int s))]) ?_ rfl
  unfold m_GreatNumber___lt__
  simp only [mFun_eq', mSeq_eq, mIfS, mRet, mRetN, mAsg, mPar, mExpr, mSkip, mBrk, mCnt, mBad, mRaise, outE_ok, outT_ok, outE_er, seqO_nx, seqO_rt, seqO_er, retO_rt, retO_nx, retO_er, Res.bind_ok, Res.bind_er, Res.bind_bad, mVar_0, mVar_s, mVarI_0, mVarI_s, strip_ref, strip_non, strip_bl, strip_int, strip_str, strip_lst, strip_tup, strip_obj, strip_lck, strip_idn, mC, mBin, mUn, mTst, mCB, mCons, mNil, mStar, mAnd, mOr, mAndT, mOrT, mNotT, mIf, mTru, truV, mTup, mLst, ds?, ds?_map, mCall, withD, mFld, getF_o, getF_r, oNeg, oNot, oAbs, oMax, oMin, oI1, oI2, oInt, add_ii, sub_ii, lt_ii, le_ii, gt_ii, ge_ii, eq_ii, ne_ii, gN, gT_tup, gL_lst, gsC_cons, gsN_nil, List.map_cons, List.map_nil, List.length_cons, List.length_nil, List.cons_append, List.nil_append, List.append_nil, List.replicate_zero, List.replicate_succ, List.set_cons_zero, List.set_cons_succ, List.zip_cons_cons, List.zip_nil_right, List.foldl_cons, List.foldl_nil, Option.map_some, Option.map_none, Option.bind_some, Nat.reduceAdd, Nat.reduceSub, Nat.reduceEqDiff, Nat.reduceLT, Nat.reduceLeDiff, String.reduceEq, reduceCtorEq, Int.reduceLT, Int.reduceLE, Int.reduceEq, Int.reduceAdd, Int.reduceSub, Int.reduceNeg, Int.reduceMul, String.reduceBEq, decide_true, decide_false, if_true, if_false, ite_true, ite_false, Bool.false_eq_true, Bool.not_true, Bool.not_false, Bool.true_and, Bool.false_and, Bool.and_true, Bool.and_false, Bool.true_or, Bool.false_or, Bool.or_true, Bool.or_false, strip_gn, isi_gn, size_gn, decide_eq_false hne, List.reverse_cons, List.reverse_nil, List.nil_append, List.cons_append]

/-! P53g: the law's own figures and numbers -/
abbrev fgD (l : List Int) : D := .tup (l.map .int)
theorem eqvs_int : ∀ (a b : List Int), D.eqvs (a.map .int) (b.map .int) = decide (a = b)
  | [], [] => by simp [D.eqvs]
  | [], _ :: _ => by simp [D.eqvs]
  | _ :: _, [] => by simp [D.eqvs]
  | x :: a, y :: b => by
    rw [List.map_cons, List.map_cons]
    show (D.eqv (.int x) (.int y) && D.eqvs (a.map .int) (b.map .int)) = _
    rw [eqvs_int a b, show D.eqv (.int x) (.int y) = (x == y) from rfl]
    by_cases h : x = y
    · by_cases h2 : a = b <;> simp [h, h2]
    · simp [h]
theorem okds_int (k : Nat) (a : List Int) : okds k (a.map .int) = true := by
  rw [okds_all, List.all_map]
  simp only [List.all_eq_true]
  intro x _
  rfl
theorem okd_tup {k : Nat} {xs : List D} (h : okds k xs = true) : okd (k + 1) (.tup xs) = true := by
  show (decide (k + 1 ≠ 0) && okds k xs) = true
  rw [h]; simp
theorem okd_lst {k : Nat} {xs : List D} (h : okds k xs = true) : okd (k + 1) (.lst xs) = true := by
  show (decide (k + 1 ≠ 0) && okds k xs) = true
  rw [h]; simp
theorem ne_dd {a b : D} (h1 : okd 60 a = true) (h2 : okd 60 b = true) (e1 : strip (.d a) = .d a) (e2 : strip (.d b) = .d b) (st : Sto) : oNe (.d a) (.d b) st = .ok (.d (.bl (!D.eqv a b))) st := by
  unfold oNe oEqN
  rw [e1, e2]
  exact if_pos ⟨h1, h2⟩
theorem eq_dd {a b : D} (h1 : okd 60 a = true) (h2 : okd 60 b = true) (e1 : strip (.d a) = .d a) (e2 : strip (.d b) = .d b) (e3 : sameO (.d a) (.d b) = false) (st : Sto) : oEq (.d a) (.d b) st = .ok (.d (.bl (D.eqv a b))) st := by
  unfold oEq oEqN
  rw [e3, e1, e2, if_neg (by decide)]
  exact if_pos ⟨h1, h2⟩
theorem ne_fg (a b : List Int) (st : Sto) : oNe (.d (fgD a)) (.d (fgD b)) st = .ok (.d (.bl (!decide (a = b)))) st := by
  rw [ne_dd (okd_tup (okds_int 59 a)) (okd_tup (okds_int 59 b)) rfl rfl]
  show Res.ok (Va.d (.bl (!D.eqvs (a.map .int) (b.map .int)))) st = _
  rw [eqvs_int]
theorem ne_fgl (a b : List Int) (st : Sto) : oNe (.d (.lst (a.map .int))) (.d (.lst (b.map .int))) st = .ok (.d (.bl (!decide (a = b)))) st := by
  rw [ne_dd (okd_lst (okds_int 59 a)) (okd_lst (okds_int 59 b)) rfl rfl]
  show Res.ok (Va.d (.bl (!D.eqvs (a.map .int) (b.map .int)))) st = _
  rw [eqvs_int]
theorem eq_fg (a b : List Int) (st : Sto) : oEq (.d (fgD a)) (.d (fgD b)) st = .ok (.d (.bl (decide (a = b)))) st := by
  rw [eq_dd (okd_tup (okds_int 59 a)) (okd_tup (okds_int 59 b)) rfl rfl rfl]
  show Res.ok (Va.d (.bl (D.eqvs (a.map .int) (b.map .int)))) st = _
  rw [eqvs_int]
theorem ne_nil (a : List Int) (st : Sto) : oNe (.d (fgD a)) (.d (.tup [])) st = .ok (.d (.bl (!decide (a = [])))) st := ne_fg a [] st
theorem eq_nil (a : List Int) (st : Sto) : oEq (.d (fgD a)) (.d (.tup [])) st = .ok (.d (.bl (decide (a = [])))) st := eq_fg a [] st
theorem eqv_pc (p : Pc) : D.eqv (pcD p) (pcD p) = true := by
  show (D.eqvs [.tup (p.1.map .int), .int p.2] [.tup (p.1.map .int), .int p.2]) = true
  show (D.eqvs (p.1.map .int) (p.1.map .int) && (((p.2 : Int) == (p.2 : Int)) && true)) = true
  rw [eqvs_int]; simp
theorem eqvs_pc : ∀ ps : List Pc, D.eqvs (ps.map pcD) (ps.map pcD) = true
  | [] => by simp [D.eqvs]
  | p :: ps => by
    rw [List.map_cons]
    show (D.eqv (pcD p) (pcD p) && D.eqvs (ps.map pcD) (ps.map pcD)) = true
    rw [eqv_pc, eqvs_pc ps]; rfl
theorem okd_pc (p : Pc) (k : Nat) : okd (k + 2) (pcD p) = true := by
  refine okd_tup (k := k + 1) ?_
  show (okd (k + 1) (.tup (p.1.map .int)) && (okd (k + 1) (.int p.2) && true)) = true
  rw [okd_tup (okds_int k p.1)]; rfl
theorem okds_pc (k : Nat) (ps : List Pc) : okds (k + 2) (ps.map pcD) = true := by
  rw [okds_all, List.all_map]
  simp only [List.all_eq_true]
  intro p _
  exact okd_pc p k
theorem ne_pcs (ps : List Pc) (st : Sto) : oNe (.d (.lst (ps.map pcD))) (.d (.lst (ps.map pcD))) st = .ok (.d (.bl false)) st := by
  rw [ne_dd (okd_lst (okds_pc 57 ps)) (okd_lst (okds_pc 57 ps)) rfl rfl]
  show Res.ok (Va.d (.bl (!D.eqvs (ps.map pcD) (ps.map pcD)))) st = _
  rw [eqvs_pc]; rfl
theorem add_fg (a b : List Int) (st : Sto) (h : a.length + b.length ≤ 1000000) : oAdd (.d (fgD a)) (.d (fgD b)) st = .ok (.d (fgD (a ++ b))) st := by
  show (if (a.map D.int).length + (b.map D.int).length ≤ cap then Res.ok (Va.d (.tup (a.map D.int ++ b.map D.int))) st else .bad) = _
  rw [if_pos (by rw [List.length_map, List.length_map]; exact h), ← List.map_append]
theorem pc_small {ps : List Pc} {s : Int} (h : ∀ p ∈ ps, GoodP s p) (hn : nfig ps ≤ 1000) {p : Pc} (hp : p ∈ ps) : p.2 ≤ 1000 := by
  have : pcN p ≤ nfig ps := by
    unfold nfig
    exact le_sum (List.mem_map_of_mem hp)
  unfold pcN at this
  have : 1 * p.2 ≤ p.1.length * p.2 := Nat.mul_le_mul_right _ (h p hp).l1
  omega
theorem p_lfigures {s : Int} {ps : List Pc} (h : ∀ p ∈ ps, GoodP s p) (hn : nfig ps ≤ 1000) (st : Sto) : pureF m_l_figures [.d (.lst (ps.map pcD))] st = .ok (.d (fgD (figs ps))) st := by
  refine pureF_d (st1 := []) rfl ?_
  have o := mFor_pre (mi := mItS (mVar 0)) (tg := gT 2 (gsC (gN 2) (gsC (gN 3) gsN))) (b := lf0_l_figures) (g := fun (p : Pc) => Va.d (pcD p))
    (S := fun (l : List Pc) ρ st => st = [] ∧ ∃ a c, ρ = [some (.d (.lst (ps.map pcD))), some (.d (fgD (figs l))), a, c]) ps (ρ := [some (.d (.lst (ps.map pcD))), some (.d (.tup [])), none, none]) (st := []) (st0 := [])
    (by rw [itS_lst (xs := ps.map pcD) (st1 := []) (by simp only [mFun_eq', mSeq_eq, mIfS, mRet, mRetN, mAsg, mPar, mExpr, mSkip, mBrk, mCnt, mBad, mRaise, outE_ok, outT_ok, outE_er, seqO_nx, seqO_rt, seqO_er, retO_rt, retO_nx, retO_er, Res.bind_ok, Res.bind_er, Res.bind_bad, mVar_0, mVar_s, mVarI_0, mVarI_s, strip_ref, strip_non, strip_bl, strip_int, strip_str, strip_lst, strip_tup, strip_obj, strip_lck, strip_idn, mC, mBin, mUn, mTst, mCB, mCons, mNil, mStar, mAnd, mOr, mAndT, mOrT, mNotT, mIf, mTru, truV, mTup, mLst, ds?, ds?_map, mCall, withD, mFld, getF_o, getF_r, oNeg, oNot, oAbs, oMax, oMin, oI1, oI2, oInt, add_ii, sub_ii, lt_ii, le_ii, gt_ii, ge_ii, eq_ii, ne_ii, gN, gT_tup, gL_lst, gsC_cons, gsN_nil, List.map_cons, List.map_nil, List.length_cons, List.length_nil, List.cons_append, List.nil_append, List.append_nil, List.replicate_zero, List.replicate_succ, List.set_cons_zero, List.set_cons_succ, List.zip_cons_cons, List.zip_nil_right, List.foldl_cons, List.foldl_nil, Option.map_some, Option.map_none, Option.bind_some, Nat.reduceAdd, Nat.reduceSub, Nat.reduceEqDiff, Nat.reduceLT, Nat.reduceLeDiff, String.reduceEq, reduceCtorEq, Int.reduceLT, Int.reduceLE, Int.reduceEq, Int.reduceAdd, Int.reduceSub, Int.reduceNeg, Int.reduceMul, String.reduceBEq, decide_true, decide_false, if_true, if_false, ite_true, ite_false, Bool.false_eq_true, Bool.not_true, Bool.not_false, Bool.true_and, Bool.false_and, Bool.and_true, Bool.and_false, Bool.true_or, Bool.false_or, Bool.or_true, Bool.or_false]), List.map_map]; rfl) ⟨rfl, none, none, rfl⟩ fun l1 p l2 e ρ st hs => by
      obtain ⟨rfl, a, c, rfl⟩ := hs
      have hp : p ∈ ps := by rw [e]; simp
      have gp := h p hp
      have t1000 := pc_small h hn hp
      have mt : oMulT (.d (.tup (p.1.map .int))) (.d (.int p.2)) [] = .ok (.d (fgD (expd p))) [] := by
        rw [mulT_ok _ _ _ ⟨by omega, by omega, by rw [List.length_map]; have := gp.l2; omega⟩, Int.toNat_natCast, rep_map, rep_expd]
      have lt : (figs l1).length + (expd p).length ≤ 1000 := by
        rw [figs_len, expd_len]
        rw [e] at hn
        unfold nfig at hn ⊢
        rw [List.map_append, List.sum_append, List.map_cons, List.sum_cons] at hn
        omega
      have ad := add_fg (figs l1) (expd p) [] (by omega)
      have e1 : figs (l1 ++ [p]) = figs l1 ++ expd p := by rw [figs_app]; simp [figs]
      rw [← e1] at ad
      refine ⟨[some (.d (.lst (ps.map pcD))), some (.d (fgD (figs l1))), some (.d (.tup (p.1.map .int))), some (.d (.int p.2))], [some (.d (.lst (ps.map pcD))), some (.d (fgD (figs (l1 ++ [p])))), some (.d (.tup (p.1.map .int))), some (.d (.int p.2))], [], rfl, ?_, rfl, _, _, rfl⟩
      simp only [mFun_eq', mSeq_eq, mIfS, mRet, mRetN, mAsg, mPar, mExpr, mSkip, mBrk, mCnt, mBad, mRaise, outE_ok, outT_ok, outE_er, seqO_nx, seqO_rt, seqO_er, retO_rt, retO_nx, retO_er, Res.bind_ok, Res.bind_er, Res.bind_bad, mVar_0, mVar_s, mVarI_0, mVarI_s, strip_ref, strip_non, strip_bl, strip_int, strip_str, strip_lst, strip_tup, strip_obj, strip_lck, strip_idn, mC, mBin, mUn, mTst, mCB, mCons, mNil, mStar, mAnd, mOr, mAndT, mOrT, mNotT, mIf, mTru, truV, mTup, mLst, ds?, ds?_map, mCall, withD, mFld, getF_o, getF_r, oNeg, oNot, oAbs, oMax, oMin, oI1, oI2, oInt, add_ii, sub_ii, lt_ii, le_ii, gt_ii, ge_ii, eq_ii, ne_ii, gN, gT_tup, gL_lst, gsC_cons, gsN_nil, List.map_cons, List.map_nil, List.length_cons, List.length_nil, List.cons_append, List.nil_append, List.append_nil, List.replicate_zero, List.replicate_succ, List.set_cons_zero, List.set_cons_succ, List.zip_cons_cons, List.zip_nil_right, List.foldl_cons, List.foldl_nil, Option.map_some, Option.map_none, Option.bind_some, Nat.reduceAdd, Nat.reduceSub, Nat.reduceEqDiff, Nat.reduceLT, Nat.reduceLeDiff, String.reduceEq, reduceCtorEq, Int.reduceLT, Int.reduceLE, Int.reduceEq, Int.reduceAdd, Int.reduceSub, Int.reduceNeg, Int.reduceMul, String.reduceBEq, decide_true, decide_false, if_true, if_false, ite_true, ite_false, Bool.false_eq_true, Bool.not_true, Bool.not_false, Bool.true_and, Bool.false_and, Bool.and_true, Bool.and_false, Bool.true_or, Bool.false_or, Bool.or_true, Bool.or_false, lf0_l_figures, mt, ad]
  obtain ⟨ρ1, st1, h1, rfl, a, c, rfl⟩ := o
  have c0 : (0 ≤ cap) = True := eq_true (by decide)
  unfold m_l_figures
  simp only [mFun_eq', mSeq_eq, mIfS, mRet, mRetN, mAsg, mPar, mExpr, mSkip, mBrk, mCnt, mBad, mRaise, outE_ok, outT_ok, outE_er, seqO_nx, seqO_rt, seqO_er, retO_rt, retO_nx, retO_er, Res.bind_ok, Res.bind_er, Res.bind_bad, mVar_0, mVar_s, mVarI_0, mVarI_s, strip_ref, strip_non, strip_bl, strip_int, strip_str, strip_lst, strip_tup, strip_obj, strip_lck, strip_idn, mC, mBin, mUn, mTst, mCB, mCons, mNil, mStar, mAnd, mOr, mAndT, mOrT, mNotT, mIf, mTru, truV, mTup, mLst, ds?, ds?_map, mCall, withD, mFld, getF_o, getF_r, oNeg, oNot, oAbs, oMax, oMin, oI1, oI2, oInt, add_ii, sub_ii, lt_ii, le_ii, gt_ii, ge_ii, eq_ii, ne_ii, gN, gT_tup, gL_lst, gsC_cons, gsN_nil, List.map_cons, List.map_nil, List.length_cons, List.length_nil, List.cons_append, List.nil_append, List.append_nil, List.replicate_zero, List.replicate_succ, List.set_cons_zero, List.set_cons_succ, List.zip_cons_cons, List.zip_nil_right, List.foldl_cons, List.foldl_nil, Option.map_some, Option.map_none, Option.bind_some, Nat.reduceAdd, Nat.reduceSub, Nat.reduceEqDiff, Nat.reduceLT, Nat.reduceLeDiff, String.reduceEq, reduceCtorEq, Int.reduceLT, Int.reduceLE, Int.reduceEq, Int.reduceAdd, Int.reduceSub, Int.reduceNeg, Int.reduceMul, String.reduceBEq, decide_true, decide_false, if_true, if_false, ite_true, ite_false, Bool.false_eq_true, Bool.not_true, Bool.not_false, Bool.true_and, Bool.false_and, Bool.and_true, Bool.and_false, Bool.true_or, Bool.false_or, Bool.or_true, Bool.or_false, h1, c0]
theorem p_lnumber {s g : Int} {l : List Int} (hs : 2 ≤ s) (hs2 : s ≤ 10) (hd : Dig s l) (hn : l.length ≤ 1000) (hg : Bd 4 g) (st : Sto) : pureF m_l_number [.d (.int g), .d (fgD l), .d (.int s)] st = .ok (.d (.int (g * valL s l))) st := by
  refine pureF_d (st1 := []) rfl ?_
  have o := mFor_pre (mi := mItS (mUn oRev (mVar 1))) (tg := gN 4) (b := lf0_l_number) (g := fun (f : Int) => Va.d (.int f))
    (S := fun (k : List Int) ρ st => st = [] ∧ ∃ a, ρ = [some (.d (.int g)), some (.d (fgD l)), some (.d (.int s)), some (.d (.int (valL s k.reverse))), a]) l.reverse (ρ := [some (.d (.int g)), some (.d (fgD l)), some (.d (.int s)), some (.d (.int 0)), none]) (st := []) (st0 := [])
    (by rw [itS_tup (xs := l.reverse.map .int) (st1 := []) (by simp only [mFun_eq', mSeq_eq, mIfS, mRet, mRetN, mAsg, mPar, mExpr, mSkip, mBrk, mCnt, mBad, mRaise, outE_ok, outT_ok, outE_er, seqO_nx, seqO_rt, seqO_er, retO_rt, retO_nx, retO_er, Res.bind_ok, Res.bind_er, Res.bind_bad, mVar_0, mVar_s, mVarI_0, mVarI_s, strip_ref, strip_non, strip_bl, strip_int, strip_str, strip_lst, strip_tup, strip_obj, strip_lck, strip_idn, mC, mBin, mUn, mTst, mCB, mCons, mNil, mStar, mAnd, mOr, mAndT, mOrT, mNotT, mIf, mTru, truV, mTup, mLst, ds?, ds?_map, mCall, withD, mFld, getF_o, getF_r, oNeg, oNot, oAbs, oMax, oMin, oI1, oI2, oInt, add_ii, sub_ii, lt_ii, le_ii, gt_ii, ge_ii, eq_ii, ne_ii, gN, gT_tup, gL_lst, gsC_cons, gsN_nil, List.map_cons, List.map_nil, List.length_cons, List.length_nil, List.cons_append, List.nil_append, List.append_nil, List.replicate_zero, List.replicate_succ, List.set_cons_zero, List.set_cons_succ, List.zip_cons_cons, List.zip_nil_right, List.foldl_cons, List.foldl_nil, Option.map_some, Option.map_none, Option.bind_some, Nat.reduceAdd, Nat.reduceSub, Nat.reduceEqDiff, Nat.reduceLT, Nat.reduceLeDiff, String.reduceEq, reduceCtorEq, Int.reduceLT, Int.reduceLE, Int.reduceEq, Int.reduceAdd, Int.reduceSub, Int.reduceNeg, Int.reduceMul, String.reduceBEq, decide_true, decide_false, if_true, if_false, ite_true, ite_false, Bool.false_eq_true, Bool.not_true, Bool.not_false, Bool.true_and, Bool.false_and, Bool.and_true, Bool.and_false, Bool.true_or, Bool.false_or, Bool.or_true, Bool.or_false, oRev]; rw [List.map_reverse]), List.map_map]; rfl) ⟨rfl, none, rfl⟩ fun l1 f l2 e ρ st hs' => by
      obtain ⟨rfl, a, rfl⟩ := hs'
      have hk : Dig s l1.reverse := fun x hx => hd x (by
        have : x ∈ l.reverse := by rw [e]; simp [List.mem_reverse.mp hx]
        exact List.mem_reverse.mp this)
      have hl : l1.length ≤ 1000 := by
        have := congrArg List.length e
        rw [List.length_reverse, List.length_append, List.length_cons] at this
        omega
      have vb := valL_bd (s := s) (by omega) hk
      have mu := mul_ok (i := valL s l1.reverse) (j := s) [] ((bd_lt (bd_pow (by omega) hs2 _) vb.1 vb.2).cmul (show Bd 4 s by unfold Bd; omega) (by rw [List.length_reverse]; omega))
      have e1 : valL s l1.reverse * s + f = valL s (l1 ++ [f]).reverse := by
        rw [List.reverse_append, List.reverse_singleton, List.singleton_append, valL, Int.mul_comm]; omega
      refine ⟨_, [some (.d (.int g)), some (.d (fgD l)), some (.d (.int s)), some (.d (.int (valL s (l1 ++ [f]).reverse))), some (.d (.int f))], [], rfl, ?_, rfl, _, rfl⟩
      simp only [mFun_eq', mSeq_eq, mIfS, mRet, mRetN, mAsg, mPar, mExpr, mSkip, mBrk, mCnt, mBad, mRaise, outE_ok, outT_ok, outE_er, seqO_nx, seqO_rt, seqO_er, retO_rt, retO_nx, retO_er, Res.bind_ok, Res.bind_er, Res.bind_bad, mVar_0, mVar_s, mVarI_0, mVarI_s, strip_ref, strip_non, strip_bl, strip_int, strip_str, strip_lst, strip_tup, strip_obj, strip_lck, strip_idn, mC, mBin, mUn, mTst, mCB, mCons, mNil, mStar, mAnd, mOr, mAndT, mOrT, mNotT, mIf, mTru, truV, mTup, mLst, ds?, ds?_map, mCall, withD, mFld, getF_o, getF_r, oNeg, oNot, oAbs, oMax, oMin, oI1, oI2, oInt, add_ii, sub_ii, lt_ii, le_ii, gt_ii, ge_ii, eq_ii, ne_ii, gN, gT_tup, gL_lst, gsC_cons, gsN_nil, List.map_cons, List.map_nil, List.length_cons, List.length_nil, List.cons_append, List.nil_append, List.append_nil, List.replicate_zero, List.replicate_succ, List.set_cons_zero, List.set_cons_succ, List.zip_cons_cons, List.zip_nil_right, List.foldl_cons, List.foldl_nil, Option.map_some, Option.map_none, Option.bind_some, Nat.reduceAdd, Nat.reduceSub, Nat.reduceEqDiff, Nat.reduceLT, Nat.reduceLeDiff, String.reduceEq, reduceCtorEq, Int.reduceLT, Int.reduceLE, Int.reduceEq, Int.reduceAdd, Int.reduceSub, Int.reduceNeg, Int.reduceMul, String.reduceBEq, decide_true, decide_false, if_true, if_false, ite_true, ite_false, Bool.false_eq_true, Bool.not_true, Bool.not_false, Bool.true_and, Bool.false_and, Bool.and_true, Bool.and_false, Bool.true_or, Bool.false_or, Bool.or_true, Bool.or_false, lf0_l_number, mu, e1]
  obtain ⟨ρ1, st1, h1, rfl, a, rfl⟩ := o
  rw [List.reverse_reverse] at h1
  have vb := valL_bd (s := s) (by omega) hd
  have mu := mul_ok (i := g) (j := valL s l) [] (hg.cmul (bd_lt (bd_pow (by omega) hs2 _) vb.1 vb.2) (by omega))
  unfold m_l_number
  simp only [mFun_eq', mSeq_eq, mIfS, mRet, mRetN, mAsg, mPar, mExpr, mSkip, mBrk, mCnt, mBad, mRaise, outE_ok, outT_ok, outE_er, seqO_nx, seqO_rt, seqO_er, retO_rt, retO_nx, retO_er, Res.bind_ok, Res.bind_er, Res.bind_bad, mVar_0, mVar_s, mVarI_0, mVarI_s, strip_ref, strip_non, strip_bl, strip_int, strip_str, strip_lst, strip_tup, strip_obj, strip_lck, strip_idn, mC, mBin, mUn, mTst, mCB, mCons, mNil, mStar, mAnd, mOr, mAndT, mOrT, mNotT, mIf, mTru, truV, mTup, mLst, ds?, ds?_map, mCall, withD, mFld, getF_o, getF_r, oNeg, oNot, oAbs, oMax, oMin, oI1, oI2, oInt, add_ii, sub_ii, lt_ii, le_ii, gt_ii, ge_ii, eq_ii, ne_ii, gN, gT_tup, gL_lst, gsC_cons, gsN_nil, List.map_cons, List.map_nil, List.length_cons, List.length_nil, List.cons_append, List.nil_append, List.append_nil, List.replicate_zero, List.replicate_succ, List.set_cons_zero, List.set_cons_succ, List.zip_cons_cons, List.zip_nil_right, List.foldl_cons, List.foldl_nil, Option.map_some, Option.map_none, Option.bind_some, Nat.reduceAdd, Nat.reduceSub, Nat.reduceEqDiff, Nat.reduceLT, Nat.reduceLeDiff, String.reduceEq, reduceCtorEq, Int.reduceLT, Int.reduceLE, Int.reduceEq, Int.reduceAdd, Int.reduceSub, Int.reduceNeg, Int.reduceMul, String.reduceBEq, decide_true, decide_false, if_true, if_false, ite_true, ite_false, Bool.false_eq_true, Bool.not_true, Bool.not_false, Bool.true_and, Bool.false_and, Bool.and_true, Bool.and_false, Bool.true_or, Bool.false_or, Bool.or_true, Bool.or_false, h1, mu]
theorem p_linteger (i j : Int) (st : Sto) : pureF m_l_integer [.d (.int i), .d (.int j)] st = .ok (.d (.bl (decide (i = j)))) st := by
  refine pureF_d (st1 := []) rfl ?_
  have a1 : oIsi [.d (.int i), .d (.ty "int")] [] = .ok (.d (.bl true)) [] := rfl
  have a2 : oIsi [.d (.int i), .d (.ty "bool")] [] = .ok (.d (.bl false)) [] := rfl
  unfold m_l_integer
  simp only [mFun_eq', mSeq_eq, mIfS, mRet, mRetN, mAsg, mPar, mExpr, mSkip, mBrk, mCnt, mBad, mRaise, outE_ok, outT_ok, outE_er, seqO_nx, seqO_rt, seqO_er, retO_rt, retO_nx, retO_er, Res.bind_ok, Res.bind_er, Res.bind_bad, mVar_0, mVar_s, mVarI_0, mVarI_s, strip_ref, strip_non, strip_bl, strip_int, strip_str, strip_lst, strip_tup, strip_obj, strip_lck, strip_idn, mC, mBin, mUn, mTst, mCB, mCons, mNil, mStar, mAnd, mOr, mAndT, mOrT, mNotT, mIf, mTru, truV, mTup, mLst, ds?, ds?_map, mCall, withD, mFld, getF_o, getF_r, oNeg, oNot, oAbs, oMax, oMin, oI1, oI2, oInt, add_ii, sub_ii, lt_ii, le_ii, gt_ii, ge_ii, eq_ii, ne_ii, gN, gT_tup, gL_lst, gsC_cons, gsN_nil, List.map_cons, List.map_nil, List.length_cons, List.length_nil, List.cons_append, List.nil_append, List.append_nil, List.replicate_zero, List.replicate_succ, List.set_cons_zero, List.set_cons_succ, List.zip_cons_cons, List.zip_nil_right, List.foldl_cons, List.foldl_nil, Option.map_some, Option.map_none, Option.bind_some, Nat.reduceAdd, Nat.reduceSub, Nat.reduceEqDiff, Nat.reduceLT, Nat.reduceLeDiff, String.reduceEq, reduceCtorEq, Int.reduceLT, Int.reduceLE, Int.reduceEq, Int.reduceAdd, Int.reduceSub, Int.reduceNeg, Int.reduceMul, String.reduceBEq, decide_true, decide_false, if_true, if_false, ite_true, ite_false, Bool.false_eq_true, Bool.not_true, Bool.not_false, Bool.true_and, Bool.false_and, Bool.and_true, Bool.and_false, Bool.true_or, Bool.false_or, Bool.or_true, Bool.or_false, a1, a2]
theorem rep_len (t : Nat) (w : List Int) : (rep t w).length = t * w.length := by
  unfold rep
  rw [List.length_flatten, List.map_replicate, List.sum_replicate_nat]
theorem figAt_get : ∀ (ps : List Pc) (i : Nat), i < nfig ps → (figs ps)[i]? = some (figAt ps i)
  | [], i, h => by simp [nfig] at h
  | p :: ps, i, h => by
    have e1 : figs (p :: ps) = expd p ++ figs ps := by simp [figs]
    have e2 : nfig (p :: ps) = pcN p + nfig ps := by simp [nfig]
    rw [e1, figAt]
    by_cases q : i < pcN p
    · rw [if_pos q, List.getElem?_append_left (by rw [expd_len]; exact q)]
      have hl : 0 < p.1.length := by
        rcases Nat.eq_zero_or_pos p.1.length with z | z
        · unfold pcN at q; rw [z] at q; omega
        · exact z
      rw [← rep_expd, rep_get _ _ _ (by unfold pcN at q; rw [Nat.mul_comm]; exact q)]
      have hk := Nat.mod_lt i hl
      rw [List.getElem?_eq_getElem hk, List.getD_eq_getElem?_getD, List.getElem?_eq_getElem hk]
      rfl
    · rw [if_neg q, List.getElem?_append_right (by rw [expd_len]; omega), expd_len]
      exact figAt_get ps _ (by omega)
theorem figAt_all (ps : List Pc) : (List.range (figs ps).length).map (figAt ps) = figs ps := by
  apply List.ext_getElem?
  intro i
  rw [List.getElem?_map]
  by_cases q : i < (figs ps).length
  · rw [List.getElem?_range q, figAt_get ps i (by rw [figs_len] at q; exact q)]
    rfl
  · rw [List.getElem?_eq_none (by simp; omega), List.getElem?_eq_none (by omega)]
    rfl
theorem figs_nil {s : Int} {ps : List Pc} (h : ∀ p ∈ ps, GoodP s p) : figs ps = [] ↔ ps = [] := by
  constructor
  · intro e
    cases ps with
    | nil => rfl
    | cons p ps =>
      have gp := h p (List.mem_cons_self ..)
      have := congrArg List.length e
      rw [figs_len] at this
      have e2 : nfig (p :: ps) = pcN p + nfig ps := by simp [nfig]
      have : 0 < pcN p := Nat.mul_pos gp.l1 gp.t1
      simp at *
      omega
  · rintro rfl; rfl

/-! P53h: all that is asked of one great number -/
theorem ownC_gn {g : MF} {s i : Int} {ps : List Pc} {y : Va} {st : Sto} (h : ∃ t, tagOf y st = some t) : oOwnC "GreatNumber" g (.d (gnD s i ps)) y st = g [.d (gnD s i ps), y] st := by
  obtain ⟨t, h⟩ := h
  unfold oOwnC
  rw [obj_gn, h]
  exact if_pos rfl
theorem ownC_gg (g : MF) (s i s' i' : Int) (ps qs : List Pc) (st : Sto) : oOwnC "GreatNumber" g (.d (gnD s i ps)) (.d (gnD s' i' qs)) st = g [.d (gnD s i ps), .d (gnD s' i' qs)] st := ownC_gn ⟨_, rfl⟩
theorem ownC_gi (g : MF) (s i : Int) (ps : List Pc) (j : Int) (st : Sto) : oOwnC "GreatNumber" g (.d (gnD s i ps)) (.d (.int j)) st = g [.d (gnD s i ps), .d (.int j)] st := ownC_gn ⟨_, rfl⟩
theorem ownC_g0 (g : MF) (s i : Int) (ps : List Pc) (st : Sto) : oOwnC "GreatNumber" g (.d (gnD s i ps)) (.d .non) st = g [.d (gnD s i ps), .d .non] st := ownC_gn ⟨_, rfl⟩
theorem ownG_gg (g : MF) (s i s' i' : Int) (ps qs : List Pc) (st : Sto) : oOwnG "GreatNumber" g (.d (gnD s i ps)) (.d (gnD s' i' qs)) st = g [.d (gnD s' i' qs), .d (gnD s i ps)] st := by
  unfold oOwnG
  rw [obj_gn, obj_gn]
  exact if_pos ⟨rfl, rfl⟩
theorem eq_bb (a b : Bool) (st : Sto) : oEq (.d (.bl a)) (.d (.bl b)) st = .ok (.d (.bl (a == b))) st := rfl
theorem ne_bb (a b : Bool) (st : Sto) : oNe (.d (.bl a)) (.d (.bl b)) st = .ok (.d (.bl (!(a == b)))) st := rfl
theorem ownX_gn (g : MF) (s i : Int) (ps : List Pc) (y : Va) (st : Sto) : oOwnX "GreatNumber" g (.d (gnD s i ps)) y st = g [.d (gnD s i ps), y] st := by
  unfold oOwnX
  rw [obj_gn]
  exact if_pos rfl
theorem ownI_gn (g : MF) (s i : Int) (ps : List Pc) (y : Int) (st : Sto) : oOwnI "GreatNumber" g (.d (gnD s i ps)) (.d (.int y)) st = g [.d (gnD s i ps), .d (.int y)] st := by
  unfold oOwnI
  rw [obj_gn]
  exact if_pos rfl
theorem own1_gn (g : MF) (s i : Int) (ps : List Pc) (st : Sto) : oOwn1 "GreatNumber" g [.d (gnD s i ps)] st = g [.d (gnD s i ps)] st := by
  unfold oOwn1
  show (match objOf (.d (gnD s i ps)) st with
    | some (c1, _) => if c1 = "GreatNumber" then g [.d (gnD s i ps)] st else .bad
    | none => .bad) = _
  rw [obj_gn]
  exact if_pos rfl
theorem ownN1_gn (g : MF) {a : ME} {ρ : Ev} {s i : Int} {ps : List Pc} {st : Sto} (h : a ρ st = .ok (.d (gnD s i ps)) st) : mOwn1 "GreatNumber" g a ρ st = g [.d (gnD s i ps)] st := by
  unfold mOwn1
  rw [h, Res.bind_ok, obj_gn]
  exact if_pos rfl
theorem list_fg (l : List Int) (st : Sto) : oList [.d (fgD l)] st = .ok (.d (.lst (l.map .int))) st := by
  unfold oList itemsOf
  simp only [ds?_map]
theorem p_lis {s g side : Int} {ps : List Pc} (h : GN s g ps) (hn : nfig ps ≤ 1000) (hg : side = 1 ∨ side = -1) (hs : ps ≠ [] → g = side) (st : Sto) : pureF m_l_is [.d (gnD s g ps), .d (.int side), .d (fgD (figs ps)), .d (.int s)] st = .ok (.d (.bl true)) st := by
  refine pureF_d (st1 := []) rfl ?_
  have hl : (figs ps).length ≤ 1000 := by rw [figs_len]; exact hn
  have nm := p_lnumber (g := side) h.s1 h.s2 (figs_dig h.gd.pc) hl (by unfold Bd; omega) []
  have fg := p_figures (g := g) h.gd.pc h.gd.n []
  have pl := p_plain h hn []
  have lf : oLen [.d (fgD (figs ps))] [] = .ok (.d (.int (nfig ps : Nat))) [] := by
    rw [show oLen [.d (fgD (figs ps))] [] = _ from len_tup _ _, List.length_map, figs_len]
  have e1 : g * valL s (figs ps) = side * valL s (figs ps) := by
    by_cases q : ps = []
    · subst q; simp [figs, valL]
    · rw [hs q]
  have i1 := p_linteger (nfig ps : Nat) (nfig ps : Nat) []
  have i2 := p_linteger (g * valL s (figs ps)) (side * valL s (figs ps)) []
  rw [decide_eq_true rfl] at i1
  rw [decide_eq_true e1] at i2
  have ns := p_nsign s g ps []
  have bs := p_size s g ps []
  have nn := ne_nil (figs ps) []
  have sg : (if (!decide (figs ps = [])) = true then side else 0) = g := by
    by_cases q : ps = []
    · rw [decide_eq_true ((figs_nil h.gd.pc).mpr q), h.g0 q]; rfl
    · rw [decide_eq_false (fun z => q ((figs_nil h.gd.pc).mp z)), hs q]; rfl
  have lc := mLc_map (own := [5]) (mi := mItR1 (mCons (mCB oLen (mCons (mVar 2) mNil)) mNil)) (tg := gN 5) (te := le0_l_is) (ρ := [some (.d (gnD s g ps)), some (.d (.int side)), some (.d (fgD (figs ps))), some (.d (.int s)), some (.d (.int (side * valL s (figs ps)))), none]) (st := []) (st1 := []) (List.range (nfig ps)) (fun (i : Nat) => Va.d (.int (i : Int))) (fun i => .int (figAt ps i))
    (by
      have ir : inR (nfig ps : Nat) = true := by unfold inR; simp; omega
      simp only [mFun_eq', mSeq_eq, mIfS, mRet, mRetN, mAsg, mPar, mExpr, mSkip, mBrk, mCnt, mBad, mRaise, outE_ok, outT_ok, outE_er, seqO_nx, seqO_rt, seqO_er, retO_rt, retO_nx, retO_er, Res.bind_ok, Res.bind_er, Res.bind_bad, mVar_0, mVar_s, mVarI_0, mVarI_s, strip_ref, strip_non, strip_bl, strip_int, strip_str, strip_lst, strip_tup, strip_obj, strip_lck, strip_idn, mC, mBin, mUn, mTst, mCB, mCons, mNil, mStar, mAnd, mOr, mAndT, mOrT, mNotT, mIf, mTru, truV, mTup, mLst, ds?, ds?_map, mCall, withD, mFld, getF_o, getF_r, oNeg, oNot, oAbs, oMax, oMin, oI1, oI2, oInt, add_ii, sub_ii, lt_ii, le_ii, gt_ii, ge_ii, eq_ii, ne_ii, gN, gT_tup, gL_lst, gsC_cons, gsN_nil, List.map_cons, List.map_nil, List.length_cons, List.length_nil, List.cons_append, List.nil_append, List.append_nil, List.replicate_zero, List.replicate_succ, List.set_cons_zero, List.set_cons_succ, List.zip_cons_cons, List.zip_nil_right, List.foldl_cons, List.foldl_nil, Option.map_some, Option.map_none, Option.bind_some, Nat.reduceAdd, Nat.reduceSub, Nat.reduceEqDiff, Nat.reduceLT, Nat.reduceLeDiff, String.reduceEq, reduceCtorEq, Int.reduceLT, Int.reduceLE, Int.reduceEq, Int.reduceAdd, Int.reduceSub, Int.reduceNeg, Int.reduceMul, String.reduceBEq, decide_true, decide_false, if_true, if_false, ite_true, ite_false, Bool.false_eq_true, Bool.not_true, Bool.not_false, Bool.true_and, Bool.false_and, Bool.and_true, Bool.and_false, Bool.true_or, Bool.false_or, Bool.or_true, Bool.or_false, lf, mItR1, ir]
      rw [rangeV_eq, Int.toNat_natCast]
      simp only [Int.zero_add]) (by rw [List.length_range]; show _ ≤ 1000000; omega) fun i hi => by
      have hi : i < nfig ps := List.mem_range.mp hi
      refine ⟨[some (.d (gnD s g ps)), some (.d (.int side)), some (.d (fgD (figs ps))), some (.d (.int s)), some (.d (.int (side * valL s (figs ps)))), some (.d (.int i))], rfl, ?_⟩
      have gi := p_getitem (g := g) h.gd.pc h.gd.n hi []
      simp only [mFun_eq', mSeq_eq, mIfS, mRet, mRetN, mAsg, mPar, mExpr, mSkip, mBrk, mCnt, mBad, mRaise, outE_ok, outT_ok, outE_er, seqO_nx, seqO_rt, seqO_er, retO_rt, retO_nx, retO_er, Res.bind_ok, Res.bind_er, Res.bind_bad, mVar_0, mVar_s, mVarI_0, mVarI_s, strip_ref, strip_non, strip_bl, strip_int, strip_str, strip_lst, strip_tup, strip_obj, strip_lck, strip_idn, mC, mBin, mUn, mTst, mCB, mCons, mNil, mStar, mAnd, mOr, mAndT, mOrT, mNotT, mIf, mTru, truV, mTup, mLst, ds?, ds?_map, mCall, withD, mFld, getF_o, getF_r, oNeg, oNot, oAbs, oMax, oMin, oI1, oI2, oInt, add_ii, sub_ii, lt_ii, le_ii, gt_ii, ge_ii, eq_ii, ne_ii, gN, gT_tup, gL_lst, gsC_cons, gsN_nil, List.map_cons, List.map_nil, List.length_cons, List.length_nil, List.cons_append, List.nil_append, List.append_nil, List.replicate_zero, List.replicate_succ, List.set_cons_zero, List.set_cons_succ, List.zip_cons_cons, List.zip_nil_right, List.foldl_cons, List.foldl_nil, Option.map_some, Option.map_none, Option.bind_some, Nat.reduceAdd, Nat.reduceSub, Nat.reduceEqDiff, Nat.reduceLT, Nat.reduceLeDiff, String.reduceEq, reduceCtorEq, Int.reduceLT, Int.reduceLE, Int.reduceEq, Int.reduceAdd, Int.reduceSub, Int.reduceNeg, Int.reduceMul, String.reduceBEq, decide_true, decide_false, if_true, if_false, ite_true, ite_false, Bool.false_eq_true, Bool.not_true, Bool.not_false, Bool.true_and, Bool.false_and, Bool.and_true, Bool.and_false, Bool.true_or, Bool.false_or, Bool.or_true, Bool.or_false, le0_l_is, strip_gn, ownX_gn, gi]
  have fa := figAt_all ps
  rw [figs_len] at fa
  have lc2 : (List.range (nfig ps)).map (fun i => D.int (figAt ps i)) = (figs ps).map .int := by
    rw [show (fun i => D.int (figAt ps i)) = D.int ∘ figAt ps from rfl, ← List.map_map, fa]
  rw [lc2] at lc
  have ll := list_fg (figs ps) []
  have nl := ne_fgl (figs ps) (figs ps) []
  rw [decide_eq_true rfl] at nl
  have pp := p_pieces (s := s) (g := g) (ps := ps) []
  have it : oIsi [.d (.lst (ps.map pcD)), .d (.ty "tuple")] [] = .ok (.d (.bl false)) [] := rfl
  have lg := p_lfigures h.gd.pc hn []
  have ee := eq_fg (figs ps) (figs ps) []
  rw [decide_eq_true rfl] at ee
  have c0 : (0 ≤ cap) = True := eq_true (by decide)
  unfold m_l_is
  by_cases q : figs ps = []
  · have d1 : decide (figs ps = []) = true := decide_eq_true q
    have g0 : g = 0 := h.g0 ((figs_nil h.gd.pc).mp q)
    have dg : decide (g = 0) = true := decide_eq_true g0
    simp only [mFun_eq', mSeq_eq, mIfS, mRet, mRetN, mAsg, mPar, mExpr, mSkip, mBrk, mCnt, mBad, mRaise, outE_ok, outT_ok, outE_er, seqO_nx, seqO_rt, seqO_er, retO_rt, retO_nx, retO_er, Res.bind_ok, Res.bind_er, Res.bind_bad, mVar_0, mVar_s, mVarI_0, mVarI_s, strip_ref, strip_non, strip_bl, strip_int, strip_str, strip_lst, strip_tup, strip_obj, strip_lck, strip_idn, mC, mBin, mUn, mTst, mCB, mCons, mNil, mStar, mAnd, mOr, mAndT, mOrT, mNotT, mIf, mTru, truV, mTup, mLst, ds?, ds?_map, mCall, withD, mFld, getF_o, getF_r, oNeg, oNot, oAbs, oMax, oMin, oI1, oI2, oInt, add_ii, sub_ii, lt_ii, le_ii, gt_ii, ge_ii, eq_ii, ne_ii, gN, gT_tup, gL_lst, gsC_cons, gsN_nil, List.map_cons, List.map_nil, List.length_cons, List.length_nil, List.cons_append, List.nil_append, List.append_nil, List.replicate_zero, List.replicate_succ, List.set_cons_zero, List.set_cons_succ, List.zip_cons_cons, List.zip_nil_right, List.foldl_cons, List.foldl_nil, Option.map_some, Option.map_none, Option.bind_some, Nat.reduceAdd, Nat.reduceSub, Nat.reduceEqDiff, Nat.reduceLT, Nat.reduceLeDiff, String.reduceEq, reduceCtorEq, Int.reduceLT, Int.reduceLE, Int.reduceEq, Int.reduceAdd, Int.reduceSub, Int.reduceNeg, Int.reduceMul, String.reduceBEq, decide_true, decide_false, if_true, if_false, ite_true, ite_false, Bool.false_eq_true, Bool.not_true, Bool.not_false, Bool.true_and, Bool.false_and, Bool.and_true, Bool.and_false, Bool.true_or, Bool.false_or, Bool.or_true, Bool.or_false, strip_gn, nm, mProp, noEr, obj_gn, fg, lf, i1, mMeth, lk_plain, lk_pieces, and_self, pl, i2, bs, ns, nn, c0, d1, dg, lc, ll, nl, pp, it, lg, ee]
  · have d1 : decide (figs ps = []) = false := decide_eq_false q
    have dg : decide (g = side) = true := decide_eq_true (hs (fun z => q ((figs_nil h.gd.pc).mpr z)))
    simp only [mFun_eq', mSeq_eq, mIfS, mRet, mRetN, mAsg, mPar, mExpr, mSkip, mBrk, mCnt, mBad, mRaise, outE_ok, outT_ok, outE_er, seqO_nx, seqO_rt, seqO_er, retO_rt, retO_nx, retO_er, Res.bind_ok, Res.bind_er, Res.bind_bad, mVar_0, mVar_s, mVarI_0, mVarI_s, strip_ref, strip_non, strip_bl, strip_int, strip_str, strip_lst, strip_tup, strip_obj, strip_lck, strip_idn, mC, mBin, mUn, mTst, mCB, mCons, mNil, mStar, mAnd, mOr, mAndT, mOrT, mNotT, mIf, mTru, truV, mTup, mLst, ds?, ds?_map, mCall, withD, mFld, getF_o, getF_r, oNeg, oNot, oAbs, oMax, oMin, oI1, oI2, oInt, add_ii, sub_ii, lt_ii, le_ii, gt_ii, ge_ii, eq_ii, ne_ii, gN, gT_tup, gL_lst, gsC_cons, gsN_nil, List.map_cons, List.map_nil, List.length_cons, List.length_nil, List.cons_append, List.nil_append, List.append_nil, List.replicate_zero, List.replicate_succ, List.set_cons_zero, List.set_cons_succ, List.zip_cons_cons, List.zip_nil_right, List.foldl_cons, List.foldl_nil, Option.map_some, Option.map_none, Option.bind_some, Nat.reduceAdd, Nat.reduceSub, Nat.reduceEqDiff, Nat.reduceLT, Nat.reduceLeDiff, String.reduceEq, reduceCtorEq, Int.reduceLT, Int.reduceLE, Int.reduceEq, Int.reduceAdd, Int.reduceSub, Int.reduceNeg, Int.reduceMul, String.reduceBEq, decide_true, decide_false, if_true, if_false, ite_true, ite_false, Bool.false_eq_true, Bool.not_true, Bool.not_false, Bool.true_and, Bool.false_and, Bool.and_true, Bool.and_false, Bool.true_or, Bool.false_or, Bool.or_true, Bool.or_false, strip_gn, nm, mProp, noEr, obj_gn, fg, lf, i1, mMeth, lk_plain, lk_pieces, and_self, pl, i2, bs, ns, nn, c0, d1, dg, lc, ll, nl, pp, it, lg, ee]
theorem figs_shift {s : Int} {ps : List Pc} (h : ∀ p ∈ ps, GoodP s p) (c : Nat) : figs (shiftP c ps) = (if figs ps = [] then [] else List.replicate c 0) ++ figs ps := by
  unfold shiftP
  by_cases q : ps = []
  · rw [if_pos (.inr q), if_pos ((figs_nil h).mpr q)]; rfl
  · rw [if_neg (show ¬ figs ps = [] from fun z => q ((figs_nil h).mp z))]
    by_cases q2 : c = 0
    · rw [if_pos (.inl q2), q2]; rfl
    · rw [if_neg (by rintro (z | z); exact q2 z; exact q z)]
      have e1 : figs (([0], c) :: ps) = expd ([0], c) ++ figs ps := by simp [figs]
      rw [e1]
      have : expd ([0], c) = List.replicate c 0 := by
        unfold expd
        induction c with
        | zero => rfl
        | succ n ih =>
          by_cases q3 : n = 0
          · subst q3; rfl
          · have ih := ih q3 (by simp [figs])
            simp only [List.replicate_succ, List.flatten_cons] at ih ⊢
            rw [ih]; rfl
      rw [this]
theorem GN.shift {s g : Int} {ps : List Pc} {c : Nat} (h : GN s g ps) (hn : ps.length < 1000) (hc : c ≤ 10 ^ 30) : GN s g (shiftP c ps) := by
  refine ⟨shift_good h.gd h.s1 hn hc, h.s1, h.s2, fun e => ?_, fun e => ?_⟩
  · unfold shiftP at e
    split at e
    · exact h.g0 e
    · cases e
  · refine h.g1 fun z => e ?_
    unfold shiftP
    rw [if_pos (.inr z)]; exact z
theorem shift_ne {c : Nat} {ps : List Pc} (e : shiftP c ps ≠ []) : ps ≠ [] := fun z => e (by unfold shiftP; rw [if_pos (.inr z)]; exact z)
theorem GN.neg {s g : Int} {ps : List Pc} (h : GN s g ps) : GN s (-g) ps := ⟨h.gd, h.s1, h.s2, fun e => by rw [h.g0 e]; rfl, fun e => by have := h.g1 e; omega⟩
theorem tag_gn (s g : Int) (ps : List Pc) (st : Sto) : ∃ t, tagOf (.d (gnD s g ps)) st = some t := ⟨_, rfl⟩
theorem rep_zero (c : Nat) : (List.replicate c [D.int 0]).flatten = (List.replicate c (0 : Int)).map .int := by
  induction c with
  | zero => rfl
  | succ n ih => rw [List.replicate_succ, List.flatten_cons, ih, List.replicate_succ]; rfl
theorem p_lturns {s g side : Int} {ps : List Pc} {c : Nat} (h : GN s g ps) (hn : nfig ps ≤ 900) (hp : ps.length < 900) (hc : c ≤ 50) (hg : side = 1 ∨ side = -1) (hs : ps ≠ [] → g = side) (st : Sto) : pureF m_l_turns [.d (gnD s g ps), .d (.int side), .d (fgD (figs ps)), .d (.int s), .d (.int c)] st = .ok (.d (.bl true)) st := by
  refine pureF_d (st1 := []) rfl ?_
  have n1 : nfig (shiftP c ps) ≤ 1000 := by
    rw [← figs_len, figs_shift h.gd.pc, List.length_append, figs_len]
    split
    · simp; omega
    · simp; omega
  have g1 := h.shift (c := c) (by omega) (by omega)
  have sh := p_shift (c := c) h (by omega) (by omega) []
  have s0 := p_shift (c := 0) h (by omega) (by omega) []
  have e0 : shiftP 0 ps = ps := if_pos (.inl rfl)
  rw [e0, show ((0 : Nat) : Int) = 0 from rfl] at s0
  have is1 := p_lis (side := side) g1 n1 hg (fun z => hs (shift_ne z)) []
  have is2 := p_lis (side := 0 - side) h.neg (by omega) (by omega) (fun z => by rw [hs z]; omega) []
  have is3 := p_lis (s := s) (g := sgn0 1 ps) (side := 1) (GN.mk' h.gd h.s1 h.s2 (.inl rfl)) (by omega) (.inl rfl) (fun z => if_neg z) []
  have is4 := p_lis h (by omega) hg hs []
  have ng := p_neg h []
  have ng2 := p_neg h.neg []
  rw [Int.neg_neg] at ng2
  have ab := p_abs h []
  have q1 := p_eq h h []
  rw [decide_eq_true rfl] at q1
  have q2 := p_eq h.neg h []
  have q3 : decide (numI s (-g) ps = numI s g ps) = decide (figs ps = []) := by
    by_cases q : ps = []
    · rw [decide_eq_true ((figs_nil h.gd.pc).mpr q)]
      refine decide_eq_true ?_
      rw [h.g0 q]; rfl
    · rw [decide_eq_false (fun z => q ((figs_nil h.gd.pc).mp z))]
      refine decide_eq_false ?_
      obtain ⟨l1, l2⟩ := h.low q
      have : 0 < s ^ (nfig ps - 1) := pow_pos' (by have := h.s1; omega) _
      unfold numI
      rcases h.g1 q with e | e <;> rw [e] <;> omega
  rw [q3] at q2
  have nn := ne_nil (figs ps) []
  have en := eq_nil (figs ps) []
  have mt : oMulT (.d (.tup [.int 0])) (.d (.int c)) [] = .ok (.d (fgD (List.replicate c 0))) [] := by
    rw [mulT_ok _ _ _ ⟨by omega, by omega, by simp⟩, Int.toNat_natCast]
    rw [rep_zero]
  have fs := figs_shift h.gd.pc c
  have c0 : (0 ≤ cap) = True := eq_true (by decide)
  have c1 : (1 ≤ cap) = True := eq_true (by decide)
  unfold m_l_turns
  by_cases q : figs ps = []
  · have d1 : decide (figs ps = []) = true := decide_eq_true q
    have ad := add_fg [] (figs ps) [] (by rw [figs_len]; simp; omega)
    rw [if_pos q] at fs
    rw [← fs] at ad
    rw [d1] at nn en q2
    have ad2 : oAdd (.d (.tup [])) (.d (fgD (figs ps))) [] = .ok (.d (fgD (figs (shiftP c ps)))) [] := ad
    simp only [mFun_eq', mSeq_eq, mIfS, mRet, mRetN, mAsg, mPar, mExpr, mSkip, mBrk, mCnt, mBad, mRaise, outE_ok, outT_ok, outE_er, seqO_nx, seqO_rt, seqO_er, retO_rt, retO_nx, retO_er, Res.bind_ok, Res.bind_er, Res.bind_bad, mVar_0, mVar_s, mVarI_0, mVarI_s, strip_ref, strip_non, strip_bl, strip_int, strip_str, strip_lst, strip_tup, strip_obj, strip_lck, strip_idn, mC, mBin, mUn, mTst, mCB, mCons, mNil, mStar, mAnd, mOr, mAndT, mOrT, mNotT, mIf, mTru, truV, mTup, mLst, ds?, ds?_map, mCall, withD, mFld, getF_o, getF_r, oNeg, oNot, oAbs, oMax, oMin, oI1, oI2, oInt, add_ii, sub_ii, lt_ii, le_ii, gt_ii, ge_ii, eq_ii, ne_ii, gN, gT_tup, gL_lst, gsC_cons, gsN_nil, List.map_cons, List.map_nil, List.length_cons, List.length_nil, List.cons_append, List.nil_append, List.append_nil, List.replicate_zero, List.replicate_succ, List.set_cons_zero, List.set_cons_succ, List.zip_cons_cons, List.zip_nil_right, List.foldl_cons, List.foldl_nil, Option.map_some, Option.map_none, Option.bind_some, Nat.reduceAdd, Nat.reduceSub, Nat.reduceEqDiff, Nat.reduceLT, Nat.reduceLeDiff, String.reduceEq, reduceCtorEq, Int.reduceLT, Int.reduceLE, Int.reduceEq, Int.reduceAdd, Int.reduceSub, Int.reduceNeg, Int.reduceMul, String.reduceBEq, decide_true, decide_false, if_true, if_false, ite_true, ite_false, Bool.false_eq_true, Bool.not_true, Bool.not_false, Bool.true_and, Bool.false_and, Bool.and_true, Bool.and_false, Bool.true_or, Bool.false_or, Bool.or_true, Bool.or_false, strip_gn, nn, en, c0, c1, mt, ad2, ownI_gn, sh, s0, is1, is2, is3, is4, mOwn1, obj_gn, ng, ng2, own1_gn, ab, ownC_gg, eq_bb, beq_self_eq_true, q1, q2]
  · have d1 : decide (figs ps = []) = false := decide_eq_false q
    have ad := add_fg (List.replicate c 0) (figs ps) [] (by rw [figs_len]; simp; omega)
    rw [if_neg q] at fs
    rw [← fs] at ad
    rw [d1] at nn en q2
    simp only [mFun_eq', mSeq_eq, mIfS, mRet, mRetN, mAsg, mPar, mExpr, mSkip, mBrk, mCnt, mBad, mRaise, outE_ok, outT_ok, outE_er, seqO_nx, seqO_rt, seqO_er, retO_rt, retO_nx, retO_er, Res.bind_ok, Res.bind_er, Res.bind_bad, mVar_0, mVar_s, mVarI_0, mVarI_s, strip_ref, strip_non, strip_bl, strip_int, strip_str, strip_lst, strip_tup, strip_obj, strip_lck, strip_idn, mC, mBin, mUn, mTst, mCB, mCons, mNil, mStar, mAnd, mOr, mAndT, mOrT, mNotT, mIf, mTru, truV, mTup, mLst, ds?, ds?_map, mCall, withD, mFld, getF_o, getF_r, oNeg, oNot, oAbs, oMax, oMin, oI1, oI2, oInt, add_ii, sub_ii, lt_ii, le_ii, gt_ii, ge_ii, eq_ii, ne_ii, gN, gT_tup, gL_lst, gsC_cons, gsN_nil, List.map_cons, List.map_nil, List.length_cons, List.length_nil, List.cons_append, List.nil_append, List.append_nil, List.replicate_zero, List.replicate_succ, List.set_cons_zero, List.set_cons_succ, List.zip_cons_cons, List.zip_nil_right, List.foldl_cons, List.foldl_nil, Option.map_some, Option.map_none, Option.bind_some, Nat.reduceAdd, Nat.reduceSub, Nat.reduceEqDiff, Nat.reduceLT, Nat.reduceLeDiff, String.reduceEq, reduceCtorEq, Int.reduceLT, Int.reduceLE, Int.reduceEq, Int.reduceAdd, Int.reduceSub, Int.reduceNeg, Int.reduceMul, String.reduceBEq, decide_true, decide_false, if_true, if_false, ite_true, ite_false, Bool.false_eq_true, Bool.not_true, Bool.not_false, Bool.true_and, Bool.false_and, Bool.and_true, Bool.and_false, Bool.true_or, Bool.false_or, Bool.or_true, Bool.or_false, strip_gn, nn, en, c0, c1, mt, ad, ownI_gn, sh, s0, is1, is2, is3, is4, mOwn1, obj_gn, ng, ng2, own1_gn, ab, ownC_gg, eq_bb, beq_self_eq_true, q1, q2]

/-! P53i: order, remainders, draws -/
theorem ix_ref0 {k : Nat} {xs : List Va} {st : Sto} {x : Va} (h0 : st[k]? = some (.lst (x :: xs))) : oIx (.ref k) (.d (.int 0)) st = .ok x st := ix_ref k _ _ _ st h0 (atI_nat _ 0 _ rfl)
theorem ix_ref1 {k : Nat} {xs : List Va} {st : Sto} {x y : Va} (h0 : st[k]? = some (.lst (x :: y :: xs))) : oIx (.ref k) (.d (.int 1)) st = .ok y st := ix_ref k _ _ _ st h0 (atI_nat _ 1 _ rfl)
theorem p_lorder {s g1 g2 : Int} {ps qs : List Pc} {k : Nat} {st : Sto} (h1 : GN s g1 ps) (h2 : GN s g2 qs) (hk : st[k]? = some (.lst [.d (.int (numI s g1 ps)), .d (.int (numI s g2 qs))])) : m_l_order [.d (gnD s g1 ps), .d (gnD s g2 qs), .ref k] st = .ok (.d (.bl true)) st := by
  have i0 := ix_ref0 hk
  have i1 := ix_ref1 hk
  have e1 := p_eq h1 h2 st
  have l1 := p_lt h1 h2 st
  have l2 := p_lt h2 h1 st
  unfold m_l_order
  simp only [mFun_eq', mSeq_eq, mIfS, mRet, mRetN, mAsg, mPar, mExpr, mSkip, mBrk, mCnt, mBad, mRaise, outE_ok, outT_ok, outE_er, seqO_nx, seqO_rt, seqO_er, retO_rt, retO_nx, retO_er, Res.bind_ok, Res.bind_er, Res.bind_bad, mVar_0, mVar_s, mVarI_0, mVarI_s, strip_ref, strip_non, strip_bl, strip_int, strip_str, strip_lst, strip_tup, strip_obj, strip_lck, strip_idn, mC, mBin, mUn, mTst, mCB, mCons, mNil, mStar, mAnd, mOr, mAndT, mOrT, mNotT, mIf, mTru, truV, mTup, mLst, ds?, ds?_map, mCall, withD, mFld, getF_o, getF_r, oNeg, oNot, oAbs, oMax, oMin, oI1, oI2, oInt, add_ii, sub_ii, lt_ii, le_ii, gt_ii, ge_ii, eq_ii, ne_ii, gN, gT_tup, gL_lst, gsC_cons, gsN_nil, List.map_cons, List.map_nil, List.length_cons, List.length_nil, List.cons_append, List.nil_append, List.append_nil, List.replicate_zero, List.replicate_succ, List.set_cons_zero, List.set_cons_succ, List.zip_cons_cons, List.zip_nil_right, List.foldl_cons, List.foldl_nil, Option.map_some, Option.map_none, Option.bind_some, Nat.reduceAdd, Nat.reduceSub, Nat.reduceEqDiff, Nat.reduceLT, Nat.reduceLeDiff, String.reduceEq, reduceCtorEq, Int.reduceLT, Int.reduceLE, Int.reduceEq, Int.reduceAdd, Int.reduceSub, Int.reduceNeg, Int.reduceMul, String.reduceBEq, decide_true, decide_false, if_true, if_false, ite_true, ite_false, Bool.false_eq_true, Bool.not_true, Bool.not_false, Bool.true_and, Bool.false_and, Bool.and_true, Bool.and_false, Bool.true_or, Bool.false_or, Bool.or_true, Bool.or_false, strip_gn, ownC_gg, ownG_gg, e1, l1, l2, i0, i1, ne_bb, eq_bb, beq_self_eq_true]
theorem eqw {s s' g1 g2 : Int} {ps qs : List Pc} (hne : s ≠ s') (st : Sto) : mw_GreatNumber___eq__ [.d (gnD s g1 ps), .d (gnD s' g2 qs)] st = .ok (.d (.bl false)) st := by
  have d : decide (s = s') = false := decide_eq_false hne
  unfold mw_GreatNumber___eq__
  simp only [mFun_eq', mSeq_eq, mIfS, mRet, mRetN, mAsg, mPar, mExpr, mSkip, mBrk, mCnt, mBad, mRaise, outE_ok, outT_ok, outE_er, seqO_nx, seqO_rt, seqO_er, retO_rt, retO_nx, retO_er, Res.bind_ok, Res.bind_er, Res.bind_bad, mVar_0, mVar_s, mVarI_0, mVarI_s, strip_ref, strip_non, strip_bl, strip_int, strip_str, strip_lst, strip_tup, strip_obj, strip_lck, strip_idn, mC, mBin, mUn, mTst, mCB, mCons, mNil, mStar, mAnd, mOr, mAndT, mOrT, mNotT, mIf, mTru, truV, mTup, mLst, ds?, ds?_map, mCall, withD, mFld, getF_o, getF_r, oNeg, oNot, oAbs, oMax, oMin, oI1, oI2, oInt, add_ii, sub_ii, lt_ii, le_ii, gt_ii, ge_ii, eq_ii, ne_ii, gN, gT_tup, gL_lst, gsC_cons, gsN_nil, List.map_cons, List.map_nil, List.length_cons, List.length_nil, List.cons_append, List.nil_append, List.append_nil, List.replicate_zero, List.replicate_succ, List.set_cons_zero, List.set_cons_succ, List.zip_cons_cons, List.zip_nil_right, List.foldl_cons, List.foldl_nil, Option.map_some, Option.map_none, Option.bind_some, Nat.reduceAdd, Nat.reduceSub, Nat.reduceEqDiff, Nat.reduceLT, Nat.reduceLeDiff, String.reduceEq, reduceCtorEq, Int.reduceLT, Int.reduceLE, Int.reduceEq, Int.reduceAdd, Int.reduceSub, Int.reduceNeg, Int.reduceMul, String.reduceBEq, decide_true, decide_false, if_true, if_false, ite_true, ite_false, Bool.false_eq_true, Bool.not_true, Bool.not_false, Bool.true_and, Bool.false_and, Bool.and_true, Bool.and_false, Bool.true_or, Bool.false_or, Bool.or_true, Bool.or_false, strip_gn, isi_gn, size_gn, d]
theorem p_lnoorder {s s' g1 g2 : Int} {ps qs : List Pc} (hne : s ≠ s') (st : Sto) : pureF m_l_no_order [.d (gnD s g1 ps), .d (gnD s' g2 qs), .d (.tup [.int s, .int s'])] st = .ok (.d (.bl true)) st := by
  refine pureF_d (st1 := []) rfl ?_
  have l1 := p_ltN (s := s) (s' := s') (g1 := g1) (g2 := g2) (ps := ps) (qs := qs) hne []
  have e0 := eq_fg [s, s'] [s, s'] []
  rw [decide_eq_true rfl] at e0
  have e1 : oEq (.d (.tup [.int s, .int s'])) (.d (.tup [.int s, .int s'])) [] = .ok (.d (.bl true)) [] := e0
  have w := eqw (g1 := g1) (g2 := g2) (ps := ps) (qs := qs) hne []
  have c2 : (2 ≤ cap) = True := eq_true (by decide)
  have k1 : List.lookup "one" [("other", Va.d (.int s')), ("one", Va.d (.int s))] = some (.d (.int s)) := rfl
  have k2 : List.lookup "other" [("other", Va.d (.int s')), ("one", Va.d (.int s))] = some (.d (.int s')) := rfl
  unfold m_l_no_order
  simp only [mFun_eq', mSeq_eq, mIfS, mRet, mRetN, mAsg, mPar, mExpr, mSkip, mBrk, mCnt, mBad, mRaise, outE_ok, outT_ok, outE_er, seqO_nx, seqO_rt, seqO_er, retO_rt, retO_nx, retO_er, Res.bind_ok, Res.bind_er, Res.bind_bad, mVar_0, mVar_s, mVarI_0, mVarI_s, strip_ref, strip_non, strip_bl, strip_int, strip_str, strip_lst, strip_tup, strip_obj, strip_lck, strip_idn, mC, mBin, mUn, mTst, mCB, mCons, mNil, mStar, mAnd, mOr, mAndT, mOrT, mNotT, mIf, mTru, truV, mTup, mLst, ds?, ds?_map, mCall, withD, mFld, getF_o, getF_r, oNeg, oNot, oAbs, oMax, oMin, oI1, oI2, oInt, add_ii, sub_ii, lt_ii, le_ii, gt_ii, ge_ii, eq_ii, ne_ii, gN, gT_tup, gL_lst, gsC_cons, gsN_nil, List.map_cons, List.map_nil, List.length_cons, List.length_nil, List.cons_append, List.nil_append, List.append_nil, List.replicate_zero, List.replicate_succ, List.set_cons_zero, List.set_cons_succ, List.zip_cons_cons, List.zip_nil_right, List.foldl_cons, List.foldl_nil, Option.map_some, Option.map_none, Option.bind_some, Nat.reduceAdd, Nat.reduceSub, Nat.reduceEqDiff, Nat.reduceLT, Nat.reduceLeDiff, String.reduceEq, reduceCtorEq, Int.reduceLT, Int.reduceLE, Int.reduceEq, Int.reduceAdd, Int.reduceSub, Int.reduceNeg, Int.reduceMul, String.reduceBEq, decide_true, decide_false, if_true, if_false, ite_true, ite_false, Bool.false_eq_true, Bool.not_true, Bool.not_false, Bool.true_and, Bool.false_and, Bool.and_true, Bool.and_false, Bool.true_or, Bool.false_or, Bool.or_true, Bool.or_false, mTry, strip_gn, ownC_gg, l1, mXf, k1, k2, c2, e1, oOwnN, w, notV]

/-! P53j: draws that leave the other cells; pieces drawn -/
def PoolO (o : MO) : Prop := ∃ c s : Int, o = .lst [.d (.int c), .d (.int s)] ∧ 0 ≤ s ∧ s < 2147483647
theorem get_mid {A tl : Sto} {o : MO} {k : Nat} (hk : A.length = k) : (A ++ o :: tl)[k]? = some o := by
  subst hk
  rw [List.getElem?_append_right (Nat.le_refl _), Nat.sub_self]
  rfl
theorem set_mid {A tl : Sto} {o p : MO} {k : Nat} (hk : A.length = k) : (A ++ o :: tl).set k p = A ++ p :: tl := by
  subst hk
  rw [List.set_append_right _ _ (Nat.le_refl _), Nat.sub_self]
  rfl
theorem draw2 {A tl : Sto} {o : MO} {k : Nat} {n : Int} (hk : A.length = k) (P : PoolO o) (hn : 0 < n) (hn2 : n.natAbs < 2 ^ 200) : ∃ d o', gDraw [.ref k, .d (.int n)] (A ++ o :: tl) = .ok (.d (.int d)) (A ++ o' :: tl) ∧ 0 ≤ d ∧ d < n ∧ PoolO o' := by
  obtain ⟨c, s, rfl, h1, h2⟩ := P
  have h := get_mid (tl := tl) (o := .lst [.d (.int c), .d (.int s)]) hk
  have cd : ∀ i : Int, CDivX i n := fun i => ⟨by omega, Nat.lt_trans (log2_small hn2 (by decide)) (by decide)⟩
  generalize hst : A ++ MO.lst [.d (.int c), .d (.int s)] :: tl = st at h
  have i0 : atI [Va.d (.int c), .d (.int s)] 0 = some (.d (.int c)) := rfl
  have i1 : atI [Va.d (.int c), .d (.int s)] 1 = some (.d (.int s)) := rfl
  have x0 : ixN 2 0 = some 0 := rfl
  have x1 : ixN 2 1 = some 1 := rfl
  by_cases hc : 0 < c
  · refine ⟨c.fmod n, .lst [.d (.int (c.fdiv n)), .d (.int s)], ?_, (fmod_pos hn).1, (fmod_pos hn).2, ⟨_, _, rfl, h1, h2⟩⟩
    rw [show A ++ MO.lst [.d (.int (c.fdiv n)), .d (.int s)] :: tl = st.set k (.lst [.d (.int (c.fdiv n)), .d (.int s)]) by rw [← hst, set_mid hk]]
    have a1 := fdiv_ok (i := c) st (cd c)
    have a2 := mod_ok (i := c) (j := n) st (by omega)
    unfold gDraw
    simp only [mFun_eq', mSeq_eq, mIfS, mRet, mRetN, mAsg, mPar, mExpr, mSkip, mBrk, mCnt, mBad, mRaise, outE_ok, outT_ok, outE_er, seqO_nx, seqO_rt, seqO_er, retO_rt, retO_nx, retO_er, Res.bind_ok, Res.bind_er, Res.bind_bad, mVar_0, mVar_s, mVarI_0, mVarI_s, strip_ref, strip_non, strip_bl, strip_int, strip_str, strip_lst, strip_tup, strip_obj, strip_lck, strip_idn, mC, mBin, mUn, mTst, mCB, mCons, mNil, mStar, mAnd, mOr, mAndT, mOrT, mNotT, mIf, mTru, truV, mTup, mLst, ds?, ds?_map, mCall, withD, mFld, getF_o, getF_r, oNeg, oNot, oAbs, oMax, oMin, oI1, oI2, oInt, add_ii, sub_ii, lt_ii, le_ii, gt_ii, ge_ii, eq_ii, ne_ii, gN, gT_tup, gL_lst, gsC_cons, gsN_nil, List.map_cons, List.map_nil, List.length_cons, List.length_nil, List.cons_append, List.nil_append, List.append_nil, List.replicate_zero, List.replicate_succ, List.set_cons_zero, List.set_cons_succ, List.zip_cons_cons, List.zip_nil_right, List.foldl_cons, List.foldl_nil, Option.map_some, Option.map_none, Option.bind_some, Nat.reduceAdd, Nat.reduceSub, Nat.reduceEqDiff, Nat.reduceLT, Nat.reduceLeDiff, String.reduceEq, reduceCtorEq, Int.reduceLT, Int.reduceLE, Int.reduceEq, Int.reduceAdd, Int.reduceSub, Int.reduceNeg, Int.reduceMul, String.reduceBEq, decide_true, decide_false, if_true, if_false, ite_true, ite_false, Bool.false_eq_true, Bool.not_true, Bool.not_false, Bool.true_and, Bool.false_and, Bool.and_true, Bool.and_false, Bool.true_or, Bool.false_or, Bool.or_true, Bool.or_false, mSetI, ix_ref k _ _ _ st h i0, hc, decide_true, a1, a2, h, x0]
    try rfl
  · refine ⟨((((s * 48271 + 11).fmod 2147483647 * (s * 48271 + 11).fmod 2147483647).fmod 2147483629).fdiv 64).fmod n, .lst [.d (.int c), .d (.int ((s * 48271 + 11).fmod 2147483647))], ?_, (fmod_pos hn).1, (fmod_pos hn).2, ⟨c, (s * 48271 + 11).fmod 2147483647, rfl, (fmod_pos (by decide)).1, (fmod_pos (by decide)).2⟩⟩
    rw [show A ++ MO.lst [.d (.int c), .d (.int ((s * 48271 + 11).fmod 2147483647))] :: tl = st.set k (.lst [.d (.int c), .d (.int ((s * 48271 + 11).fmod 2147483647))]) by rw [← hst, set_mid hk]]
    have g1 := fmod_pos (i := s * 48271 + 11) (j := 2147483647) (by decide)
    have a1 := mul_ok (i := s) (j := 48271) st (cmulw (by omega) (by decide))
    have a2 := fun st => mod_ok (i := s * 48271 + 11) (j := 2147483647) st (by decide)
    have a3 := fun st => mul_ok (i := (s * 48271 + 11).fmod 2147483647) (j := (s * 48271 + 11).fmod 2147483647) st (cmulw (by omega) (by omega))
    have a4 := fun i st => mod_ok (i := i) (j := 2147483629) st (by decide)
    have a5 := fun i st => fdiv_ok (i := i) (j := 64) st (cdivx (by decide) (by decide))
    have a6 := fun i st => mod_ok (i := i) (j := n) st (by omega)
    have h' : (st.set k (.lst [.d (.int c), .d (.int ((s * 48271 + 11).fmod 2147483647))]))[k]? = some (.lst [.d (.int c), .d (.int ((s * 48271 + 11).fmod 2147483647))]) := set_get h
    have i2 : atI [Va.d (.int c), .d (.int ((s * 48271 + 11).fmod 2147483647))] 1 = some (.d (.int ((s * 48271 + 11).fmod 2147483647))) := rfl
    unfold gDraw
    simp only [mFun_eq', mSeq_eq, mIfS, mRet, mRetN, mAsg, mPar, mExpr, mSkip, mBrk, mCnt, mBad, mRaise, outE_ok, outT_ok, outE_er, seqO_nx, seqO_rt, seqO_er, retO_rt, retO_nx, retO_er, Res.bind_ok, Res.bind_er, Res.bind_bad, mVar_0, mVar_s, mVarI_0, mVarI_s, strip_ref, strip_non, strip_bl, strip_int, strip_str, strip_lst, strip_tup, strip_obj, strip_lck, strip_idn, mC, mBin, mUn, mTst, mCB, mCons, mNil, mStar, mAnd, mOr, mAndT, mOrT, mNotT, mIf, mTru, truV, mTup, mLst, ds?, ds?_map, mCall, withD, mFld, getF_o, getF_r, oNeg, oNot, oAbs, oMax, oMin, oI1, oI2, oInt, add_ii, sub_ii, lt_ii, le_ii, gt_ii, ge_ii, eq_ii, ne_ii, gN, gT_tup, gL_lst, gsC_cons, gsN_nil, List.map_cons, List.map_nil, List.length_cons, List.length_nil, List.cons_append, List.nil_append, List.append_nil, List.replicate_zero, List.replicate_succ, List.set_cons_zero, List.set_cons_succ, List.zip_cons_cons, List.zip_nil_right, List.foldl_cons, List.foldl_nil, Option.map_some, Option.map_none, Option.bind_some, Nat.reduceAdd, Nat.reduceSub, Nat.reduceEqDiff, Nat.reduceLT, Nat.reduceLeDiff, String.reduceEq, reduceCtorEq, Int.reduceLT, Int.reduceLE, Int.reduceEq, Int.reduceAdd, Int.reduceSub, Int.reduceNeg, Int.reduceMul, String.reduceBEq, decide_true, decide_false, if_true, if_false, ite_true, ite_false, Bool.false_eq_true, Bool.not_true, Bool.not_false, Bool.true_and, Bool.false_and, Bool.and_true, Bool.and_false, Bool.true_or, Bool.false_or, Bool.or_true, Bool.or_false, mSetI, ix_ref k _ _ _ st h i0, ix_ref k _ _ _ st h i1, hc, decide_false, a1, a2, h, x1, ix_ref k _ _ _ _ h' i2, a3, a4, a5, a6]
theorem draw3 {A tl : Sto} {o : MO} {k : Nat} {n : Int} (hk : A.length = k) (P : PoolO o) (hn : 0 < n) (hn2 : n.natAbs < 2 ^ 200) : ∃ d o', m_l_draw [.ref k, .d (.int n)] (A ++ o :: tl) = .ok (.d (.int d)) (A ++ o' :: tl) ∧ 0 ≤ d ∧ d < n ∧ PoolO o' := by
  rw [g_draw]
  exact draw2 hk P hn hn2
theorem ints_of {P : Int → Prop} : ∀ {ds : List D}, (∀ y ∈ ds, ∃ f, y = .int f ∧ P f) → ∃ w : List Int, ds = w.map .int ∧ ∀ f ∈ w, P f
  | [], _ => ⟨[], rfl, fun f hf => by cases hf⟩
  | y :: ds, h => by
    obtain ⟨f, rfl, hf⟩ := h y (List.mem_cons_self ..)
    obtain ⟨w, rfl, hw⟩ := ints_of fun z hz => h z (List.mem_cons_of_mem _ hz)
    refine ⟨f :: w, rfl, fun g hg => ?_⟩
    rcases List.mem_cons.mp hg with rfl | hg
    · exact hf
    · exact hw g hg
theorem word_ok {A tl : Sto} {o : MO} {k : Nat} {s : Int} (hk : A.length = k) (ho : PoolO o) (hs : 2 ≤ s) (hs2 : s ≤ 10) (x2 x3 x4 x5 x6 x7 x8 : Option Va) :
    ∃ (w : List Int) (o' : MO), mLc [8] (mItR1 (mCons (mBin oAdd (mC (.int 1)) (mCall (withD [] m_l_draw) (mCons (mVar 0) (mCons (mC (.int 4)) mNil)))) mNil)) (gN 8) mYes le0_l_pieces [some (.ref k), some (.d (.int s)), x2, x3, x4, x5, x6, x7, x8] (A ++ o :: tl) = .ok (.d (.lst (w.map .int))) (A ++ o' :: tl) ∧ PoolO o' ∧ 1 ≤ w.length ∧ w.length ≤ 4 ∧ Dig s w := by
  obtain ⟨d, o1, e1, d1, d2, p1⟩ := draw3 (tl := tl) (n := 4) hk ho (by decide) (by decide)
  have ir : inR (1 + d) = true := by unfold inR; simp; omega
  have it : mItR1 (mCons (mBin oAdd (mC (.int 1)) (mCall (withD [] m_l_draw) (mCons (mVar 0) (mCons (mC (.int 4)) mNil)))) mNil) [some (.ref k), some (.d (.int s)), x2, x3, x4, x5, x6, x7, x8] (A ++ o :: tl) = .ok ⟨rangeV 0 (1 + d).toNat, none⟩ (A ++ o1 :: tl) := by
    simp only [mFun_eq', mSeq_eq, mIfS, mRet, mRetN, mAsg, mPar, mExpr, mSkip, mBrk, mCnt, mBad, mRaise, outE_ok, outT_ok, outE_er, seqO_nx, seqO_rt, seqO_er, retO_rt, retO_nx, retO_er, Res.bind_ok, Res.bind_er, Res.bind_bad, mVar_0, mVar_s, mVarI_0, mVarI_s, strip_ref, strip_non, strip_bl, strip_int, strip_str, strip_lst, strip_tup, strip_obj, strip_lck, strip_idn, mC, mBin, mUn, mTst, mCB, mCons, mNil, mStar, mAnd, mOr, mAndT, mOrT, mNotT, mIf, mTru, truV, mTup, mLst, ds?, ds?_map, mCall, withD, mFld, getF_o, getF_r, oNeg, oNot, oAbs, oMax, oMin, oI1, oI2, oInt, add_ii, sub_ii, lt_ii, le_ii, gt_ii, ge_ii, eq_ii, ne_ii, gN, gT_tup, gL_lst, gsC_cons, gsN_nil, List.map_cons, List.map_nil, List.length_cons, List.length_nil, List.cons_append, List.nil_append, List.append_nil, List.replicate_zero, List.replicate_succ, List.set_cons_zero, List.set_cons_succ, List.zip_cons_cons, List.zip_nil_right, List.foldl_cons, List.foldl_nil, Option.map_some, Option.map_none, Option.bind_some, Nat.reduceAdd, Nat.reduceSub, Nat.reduceEqDiff, Nat.reduceLT, Nat.reduceLeDiff, String.reduceEq, reduceCtorEq, Int.reduceLT, Int.reduceLE, Int.reduceEq, Int.reduceAdd, Int.reduceSub, Int.reduceNeg, Int.reduceMul, String.reduceBEq, decide_true, decide_false, if_true, if_false, ite_true, ite_false, Bool.false_eq_true, Bool.not_true, Bool.not_false, Bool.true_and, Bool.false_and, Bool.and_true, Bool.and_false, Bool.true_or, Bool.false_or, Bool.or_true, Bool.or_false, mItR1, e1, ir]
  obtain ⟨ds, st1, h1, h2, h3, o2, p2, rfl⟩ := mLc_inv (own := [8]) (tg := gN 8) (te := le0_l_pieces) (I := fun st => ∃ o, PoolO o ∧ st = A ++ o :: tl) (R := fun y => ∃ f, y = .int f ∧ 0 ≤ f ∧ f < s) it (by rw [rangeV_len]; show _ ≤ 1000000; omega) ⟨o1, p1, rfl⟩ fun x hx st hi => by
    obtain ⟨o2, p2, rfl⟩ := hi
    obtain ⟨d, o3, e3, d1, d2, p3⟩ := draw3 (tl := tl) (n := s) hk p2 (by omega) (by omega)
    refine ⟨[some (.ref k), some (.d (.int s)), x2, x3, x4, x5, x6, x7, some x], .int d, _, rfl, ?_, ⟨d, rfl, d1, d2⟩, o3, p3, rfl⟩
    simp only [mFun_eq', mSeq_eq, mIfS, mRet, mRetN, mAsg, mPar, mExpr, mSkip, mBrk, mCnt, mBad, mRaise, outE_ok, outT_ok, outE_er, seqO_nx, seqO_rt, seqO_er, retO_rt, retO_nx, retO_er, Res.bind_ok, Res.bind_er, Res.bind_bad, mVar_0, mVar_s, mVarI_0, mVarI_s, strip_ref, strip_non, strip_bl, strip_int, strip_str, strip_lst, strip_tup, strip_obj, strip_lck, strip_idn, mC, mBin, mUn, mTst, mCB, mCons, mNil, mStar, mAnd, mOr, mAndT, mOrT, mNotT, mIf, mTru, truV, mTup, mLst, ds?, ds?_map, mCall, withD, mFld, getF_o, getF_r, oNeg, oNot, oAbs, oMax, oMin, oI1, oI2, oInt, add_ii, sub_ii, lt_ii, le_ii, gt_ii, ge_ii, eq_ii, ne_ii, gN, gT_tup, gL_lst, gsC_cons, gsN_nil, List.map_cons, List.map_nil, List.length_cons, List.length_nil, List.cons_append, List.nil_append, List.append_nil, List.replicate_zero, List.replicate_succ, List.set_cons_zero, List.set_cons_succ, List.zip_cons_cons, List.zip_nil_right, List.foldl_cons, List.foldl_nil, Option.map_some, Option.map_none, Option.bind_some, Nat.reduceAdd, Nat.reduceSub, Nat.reduceEqDiff, Nat.reduceLT, Nat.reduceLeDiff, String.reduceEq, reduceCtorEq, Int.reduceLT, Int.reduceLE, Int.reduceEq, Int.reduceAdd, Int.reduceSub, Int.reduceNeg, Int.reduceMul, String.reduceBEq, decide_true, decide_false, if_true, if_false, ite_true, ite_false, Bool.false_eq_true, Bool.not_true, Bool.not_false, Bool.true_and, Bool.false_and, Bool.and_true, Bool.and_false, Bool.true_or, Bool.false_or, Bool.or_true, Bool.or_false, le0_l_pieces, e3]
  obtain ⟨w, rfl, hw⟩ := ints_of h3
  rw [rangeV_len, List.length_map] at h2
  exact ⟨w, o2, h1, p2, by omega, by omega, hw⟩
structure GoodL (s : Int) (T : Nat) (p : Pc) : Prop where
  l1 : 1 ≤ p.1.length
  l4 : p.1.length ≤ 4
  t1 : 1 ≤ p.2
  tT : p.2 ≤ T
  fg : Dig s p.1
theorem turn_p {A tl : Sto} {o : MO} {k N : Nat} {s : Int} {T : Nat} {ps : List Pc} (hk : A.length = k) (hN : A.length + 1 + tl.length = N) (ho : PoolO o) (hs : 2 ≤ s) (hs2 : s ≤ 10) (hT : 1 ≤ T) (hT2 : T ≤ 10 ^ 30) (hl : ps.length ≤ 1000) (x2 x5 x6 x7 x8 : Option Va) :
    ∃ (p : Pc) (o' : MO) (x6' : Option Va), lf1_l_pieces [some (.ref k), some (.d (.int s)), x2, some (.d (.int T)), some (.ref N), x5, x6, x7, x8] (A ++ o :: (tl ++ [.lst (ps.map fun p => Va.d (pcD p))])) = .nx [some (.ref k), some (.d (.int s)), x2, some (.d (.int T)), some (.ref N), x5, x6', x7, x8] (A ++ o' :: (tl ++ [.lst ((ps ++ [p]).map fun p => Va.d (pcD p))])) ∧ PoolO o' ∧ GoodL s T p := by
  obtain ⟨w, o1, e1, p1, w1, w2, w3⟩ := word_ok (tl := tl ++ [.lst (ps.map fun p => Va.d (pcD p))]) hk ho hs hs2 x2 (some (.d (.int T))) (some (.ref N)) x5 x6 x7 x8
  obtain ⟨d, o2, e2, d1, d2, p2⟩ := draw3 (tl := tl ++ [.lst (ps.map fun p => Va.d (pcD p))]) (n := (T : Int)) hk p1 (by omega) (by omega)
  have c1 : ∀ o c, (A ++ o :: (tl ++ [c]))[N]? = some c := fun o c => by
    rw [show A ++ o :: (tl ++ [c]) = (A ++ o :: tl) ++ c :: [] by simp]
    exact get_mid (by simp; omega)
  have s1 : ∀ o c c', (A ++ o :: (tl ++ [c])).set N c' = A ++ o :: (tl ++ [c']) := fun o c c' => by
    rw [show A ++ o :: (tl ++ [c]) = (A ++ o :: tl) ++ c :: [] by simp, set_mid (by simp; omega)]
    simp
  have il : ∀ o c, isLst (.ref N) (A ++ o :: (tl ++ [.lst c])) = true := fun o c => by
    show (match (A ++ o :: (tl ++ [.lst c]))[N]? with
      | some (.lst _) => true
      | _ => false) = true
    rw [c1]
  have tp : ∀ st, oTuple [.d (.lst (w.map .int))] st = .ok (.d (fgD w)) st := fun st => rfl
  have c2 : (2 ≤ cap) = True := eq_true (by decide)
  have ap : oAppend (.ref N) [.d (.tup [fgD w, .int (1 + d)])] (A ++ o2 :: (tl ++ [.lst (ps.map fun p => Va.d (pcD p))])) = .ok (.d .non) (A ++ o2 :: (tl ++ [.lst ((ps ++ [(w, (1 + d).toNat)]).map fun p => Va.d (pcD p))])) := by
    unfold oAppend
    dsimp only
    rw [c1]
    dsimp only
    rw [if_pos (by rw [List.length_map]; show _ < 1000000; omega), s1, List.map_append]
    have : pcD (w, (1 + d).toNat) = .tup [fgD w, .int (1 + d)] := by
      unfold pcD
      rw [show (((1 + d).toNat : Nat) : Int) = 1 + d by omega]
    rw [List.map_cons, List.map_nil, this]
  refine ⟨(w, (1 + d).toNat), o2, some (.d (.lst (w.map .int))), ?_, p2, w1, w2, by show 1 ≤ (1 + d).toNat; omega, by show (1 + d).toNat ≤ T; omega, w3⟩
  simp only [mFun_eq', mSeq_eq, mIfS, mRet, mRetN, mAsg, mPar, mExpr, mSkip, mBrk, mCnt, mBad, mRaise, outE_ok, outT_ok, outE_er, seqO_nx, seqO_rt, seqO_er, retO_rt, retO_nx, retO_er, Res.bind_ok, Res.bind_er, Res.bind_bad, mVar_0, mVar_s, mVarI_0, mVarI_s, strip_ref, strip_non, strip_bl, strip_int, strip_str, strip_lst, strip_tup, strip_obj, strip_lck, strip_idn, mC, mBin, mUn, mTst, mCB, mCons, mNil, mStar, mAnd, mOr, mAndT, mOrT, mNotT, mIf, mTru, truV, mTup, mLst, ds?, ds?_map, mCall, withD, mFld, getF_o, getF_r, oNeg, oNot, oAbs, oMax, oMin, oI1, oI2, oInt, add_ii, sub_ii, lt_ii, le_ii, gt_ii, ge_ii, eq_ii, ne_ii, gN, gT_tup, gL_lst, gsC_cons, gsN_nil, List.map_cons, List.map_nil, List.length_cons, List.length_nil, List.cons_append, List.nil_append, List.append_nil, List.replicate_zero, List.replicate_succ, List.set_cons_zero, List.set_cons_succ, List.zip_cons_cons, List.zip_nil_right, List.foldl_cons, List.foldl_nil, Option.map_some, Option.map_none, Option.bind_some, Nat.reduceAdd, Nat.reduceSub, Nat.reduceEqDiff, Nat.reduceLT, Nat.reduceLeDiff, String.reduceEq, reduceCtorEq, Int.reduceLT, Int.reduceLE, Int.reduceEq, Int.reduceAdd, Int.reduceSub, Int.reduceNeg, Int.reduceMul, String.reduceBEq, decide_true, decide_false, if_true, if_false, ite_true, ite_false, Bool.false_eq_true, Bool.not_true, Bool.not_false, Bool.true_and, Bool.false_and, Bool.and_true, Bool.and_false, Bool.true_or, Bool.false_or, Bool.or_true, Bool.or_false, lf1_l_pieces, e1, mLM, il, tp, e2, c2, ap]

/-! P53k: the pieces drawn -/
theorem cut_last {α : Type} (xs : List α) : cutA xs none (some (-1)) = xs.dropLast := by
  unfold cutA
  show (xs.drop 0).take ((if (-1 : Int) < 0 then ((-1 : Int) + (xs.length : Int)).toNat else min (-1 : Int).toNat xs.length) - 0) = _
  rw [if_pos (by decide), List.drop_zero, Nat.sub_zero, List.dropLast_eq_take]
  congr 1
  omega
theorem mapO_d {β : Type} {f : Va → Option D} (g : β → D) (hf : ∀ x, f (.d x) = some x) : ∀ l : List β, mapO f (l.map fun p => Va.d (g p)) = some (l.map g)
  | [] => rfl
  | x :: l => by
    rw [List.map_cons]
    unfold mapO
    rw [hf, mapO_d g hf l]
    rfl
def FlatO (c : MO) : Prop := ∃ ds : List D, c = .lst (ds.map Va.d)
theorem FlatO.old {c : MO} (h : FlatO c) (N : Nat) : oldO N c = true := by
  obtain ⟨ds, rfl⟩ := h
  show (ds.map Va.d).all (oldV N) = true
  rw [List.all_map]
  simp only [List.all_eq_true]
  intro x _
  rfl
theorem PoolO.flat {o : MO} (h : PoolO o) : FlatO o := by
  obtain ⟨c, s, rfl, _⟩ := h
  exact ⟨[.int c, .int s], rfl⟩
def FlatS (st : Sto) : Prop := ∀ c ∈ st, FlatO c
theorem pcs_va (ps : List Pc) : (ps.map fun p => Va.d (pcD p)) = (ps.map pcD).map Va.d := by rw [List.map_map]; rfl
/-- the last figure of the last piece, set anew -/
def topP (ps : List Pc) (f : Int) : List Pc := match ps.getLast? with
  | none => []
  | some p => ps.dropLast ++ [(p.1.dropLast ++ [f], p.2)]
theorem topP_snoc (ps : List Pc) (p : Pc) (f : Int) : topP (ps ++ [p]) f = ps ++ [(p.1.dropLast ++ [f], p.2)] := by
  unfold topP
  rw [List.getLast?_concat]
  dsimp only
  rw [List.dropLast_concat]
theorem p_lpieces {A tl : Sto} {o : MO} {k M T : Nat} {s : Int} (hk : A.length = k) (ho : PoolO o) (hs : 2 ≤ s) (hs2 : s ≤ 10) (hT : 1 ≤ T) (hT2 : T ≤ 10 ^ 30) (hM : M ≤ 900) (fA : FlatS A) (fT : FlatS tl) :
    ∃ (ps : List Pc) (o' : MO), trimF m_l_pieces [.ref k, .d (.int s), .d (.int M), .d (.int T)] (A ++ o :: tl) = .ok (.d (.lst (ps.map pcD))) (A ++ o' :: tl) ∧ PoolO o' ∧ ps.length ≤ M ∧ (∀ p ∈ ps, GoodL s T p) ∧ topOk ps := by
  have hN : (A ++ o :: tl).length = A.length + 1 + tl.length := by simp; omega
  generalize hNe : A.length + 1 + tl.length = N at hN
  obtain ⟨n, o1, e1, n1, n2, p1⟩ := draw3 (tl := tl ++ [.lst []]) (n := (M : Int) + 1) hk ho (by omega) (by omega)
  have ir : inR n = true := by unfold inR; simp; omega
  have it : mItR1 (mCons (mCall (withD [] m_l_draw) (mCons (mVar 0) (mCons (mBin oAdd (mVar 2) (mC (.int 1))) mNil))) mNil) [some (.ref k), some (.d (.int s)), some (.d (.int M)), some (.d (.int T)), some (.ref N), none, none, none, none] (A ++ o :: (tl ++ [.lst []])) = .ok ⟨rangeV 0 n.toNat, none⟩ (A ++ o1 :: (tl ++ [.lst []])) := by
    simp only [mFun_eq', mSeq_eq, mIfS, mRet, mRetN, mAsg, mPar, mExpr, mSkip, mBrk, mCnt, mBad, mRaise, outE_ok, outT_ok, outE_er, seqO_nx, seqO_rt, seqO_er, retO_rt, retO_nx, retO_er, Res.bind_ok, Res.bind_er, Res.bind_bad, mVar_0, mVar_s, mVarI_0, mVarI_s, strip_ref, strip_non, strip_bl, strip_int, strip_str, strip_lst, strip_tup, strip_obj, strip_lck, strip_idn, mC, mBin, mUn, mTst, mCB, mCons, mNil, mStar, mAnd, mOr, mAndT, mOrT, mNotT, mIf, mTru, truV, mTup, mLst, ds?, ds?_map, mCall, withD, mFld, getF_o, getF_r, oNeg, oNot, oAbs, oMax, oMin, oI1, oI2, oInt, add_ii, sub_ii, lt_ii, le_ii, gt_ii, ge_ii, eq_ii, ne_ii, gN, gT_tup, gL_lst, gsC_cons, gsN_nil, List.map_cons, List.map_nil, List.length_cons, List.length_nil, List.cons_append, List.nil_append, List.append_nil, List.replicate_zero, List.replicate_succ, List.set_cons_zero, List.set_cons_succ, List.zip_cons_cons, List.zip_nil_right, List.foldl_cons, List.foldl_nil, Option.map_some, Option.map_none, Option.bind_some, Nat.reduceAdd, Nat.reduceSub, Nat.reduceEqDiff, Nat.reduceLT, Nat.reduceLeDiff, String.reduceEq, reduceCtorEq, Int.reduceLT, Int.reduceLE, Int.reduceEq, Int.reduceAdd, Int.reduceSub, Int.reduceNeg, Int.reduceMul, String.reduceBEq, decide_true, decide_false, if_true, if_false, ite_true, ite_false, Bool.false_eq_true, Bool.not_true, Bool.not_false, Bool.true_and, Bool.false_and, Bool.and_true, Bool.and_false, Bool.true_or, Bool.false_or, Bool.or_true, Bool.or_false, mItR1, e1, ir]
  obtain ⟨ρ1, st1, h1, ps, o2, x5, x6, p2, h2, h3, rfl, rfl⟩ := mFor_inv (tg := gN 5) (b := lf1_l_pieces) (I := fun j ρ st => ∃ (ps : List Pc) (o : MO) (x5 x6 : Option Va), PoolO o ∧ ps.length = j ∧ (∀ p ∈ ps, GoodL s T p) ∧ ρ = [some (.ref k), some (.d (.int s)), some (.d (.int M)), some (.d (.int T)), some (.ref N), x5, x6, none, none] ∧ st = A ++ o :: (tl ++ [.lst (ps.map fun p => Va.d (pcD p))])) it
    ⟨[], o1, none, none, p1, rfl, fun p hp => (by cases hp), rfl, rfl⟩ fun j x hj ρ st hi => by
      obtain ⟨ps, o2, x5, x6, p2, h2, h3, rfl, rfl⟩ := hi
      have hj2 := (rangeV_get hj).2
      obtain ⟨p, o3, x6', e3, p3, gp⟩ := turn_p (N := N) (T := T) (ps := ps) (tl := tl) hk hNe p2 hs hs2 hT hT2 (by omega) (some (.d (.int M))) (some x) x6 none none
      refine ⟨_, _, _, rfl, e3, ps ++ [p], o3, _, _, p3, by rw [List.length_append, h2]; rfl, fun q hq => ?_, rfl, rfl⟩
      rcases List.mem_append.mp hq with hq | hq
      · exact h3 q hq
      · rw [List.mem_singleton.mp hq]; exact gp
  rw [rangeV_len] at h2
  have hpl : ps.length ≤ M := by omega
  have c1 : ∀ o c t, (A ++ o :: (tl ++ c :: t))[N]? = some c := fun o c t => by
    rw [show A ++ o :: (tl ++ c :: t) = (A ++ o :: tl) ++ c :: t by simp]
    exact get_mid (by simp; omega)
  have s1 : ∀ o c c' t, (A ++ o :: (tl ++ c :: t)).set N c' = A ++ o :: (tl ++ c' :: t) := fun o c c' t => by
    rw [show A ++ o :: (tl ++ c :: t) = (A ++ o :: tl) ++ c :: t by simp, set_mid (by simp; omega)]
    simp
  have tk : ∀ o t, (A ++ o :: (tl ++ t)).take N = A ++ o :: tl := fun o t => by
    rw [show A ++ o :: (tl ++ t) = (A ++ o :: tl) ++ t by simp]
    exact List.take_left' (by simp; omega)
  -- what is handed back, made plain
  have fin : ∀ (qs : List Pc) (o' : MO) (t : Sto), PoolO o' → m_l_pieces [.ref k, .d (.int s), .d (.int M), .d (.int T)] (A ++ o :: tl) = .ok (.ref N) (A ++ o' :: (tl ++ .lst (qs.map fun p => Va.d (pcD p)) :: t)) →
      trimF m_l_pieces [.ref k, .d (.int s), .d (.int M), .d (.int T)] (A ++ o :: tl) = .ok (.d (.lst (qs.map pcD))) (A ++ o' :: tl) := fun qs o' t po' e => by
    unfold trimF
    rw [e, hN]
    dsimp only
    have r1 : rsvN N (A ++ o' :: (tl ++ .lst (qs.map fun p => Va.d (pcD p)) :: t)) ((A ++ o' :: (tl ++ .lst (qs.map fun p => Va.d (pcD p)) :: t)).length + 1) (.ref N) = some (.lst (qs.map pcD)) := by
      show (if N < N then none else match (A ++ o' :: (tl ++ .lst (qs.map fun p => Va.d (pcD p)) :: t))[N]? with
        | some (.lst xs) => (mapO (rsvN N _ _) xs).map D.lst
        | some (.obj c fs) => (mapO (fun p => (rsvN N _ _ p.2).map fun y => (p.1, y)) fs).map (D.obj c)
        | _ => none) = _
      rw [if_neg (Nat.lt_irrefl _), c1]
      dsimp only
      rw [mapO_d pcD (fun x => rsvN_d)]
      rfl
    rw [r1]
    dsimp only
    rw [tk, if_pos]
    refine ⟨by simp; omega, ?_⟩
    simp only [List.all_eq_true]
    intro c hc
    rcases List.mem_append.mp hc with hc | hc
    · exact (fA c hc).old N
    · rcases List.mem_cons.mp hc with rfl | hc
      · exact po'.flat.old N
      · exact (fT c hc).old N
  have a0 : (A ++ o :: tl) ++ [MO.lst []] = A ++ o :: (tl ++ [.lst []]) := by simp
  have c0 : (0 ≤ cap) = True := eq_true (by decide)
  have a1 : (A ++ o2 :: (tl ++ [.lst (ps.map fun p => Va.d (pcD p))])) ++ [MO.lst []] = A ++ o2 :: (tl ++ [.lst (ps.map fun p => Va.d (pcD p)), .lst []]) := by simp
  have a2 : (A ++ o2 :: (tl ++ [.lst (ps.map fun p => Va.d (pcD p))])).length = N + 1 := by simp; omega
  have c3 : (A ++ o2 :: (tl ++ [.lst (ps.map fun p => Va.d (pcD p)), .lst []]))[N + 1]? = some (.lst []) := by
    rw [← a1]
    exact get_mid a2
  have ne : oNe (.ref N) (.ref (N + 1)) (A ++ o2 :: (tl ++ [.lst (ps.map fun p => Va.d (pcD p)), .lst []])) = .ok (.d (.bl (decide (ps ≠ [])))) (A ++ o2 :: (tl ++ [.lst (ps.map fun p => Va.d (pcD p)), .lst []])) := by
    unfold oNe oEqN
    have d1 : dat? (strip (.ref N)) (A ++ o2 :: (tl ++ [.lst (ps.map fun p => Va.d (pcD p)), .lst []])) = some (.lst (ps.map pcD)) := by
      show (match (A ++ o2 :: (tl ++ [.lst (ps.map fun p => Va.d (pcD p)), .lst []]))[N]? with
        | some (.lst xs) => (ds? xs).map D.lst
        | _ => none) = _
      rw [c1, pcs_va]
      dsimp only
      rw [ds?_map]
      rfl
    have d2 : dat? (strip (.ref (N + 1))) (A ++ o2 :: (tl ++ [.lst (ps.map fun p => Va.d (pcD p)), .lst []])) = some (.lst []) := by
      show (match (A ++ o2 :: (tl ++ [.lst (ps.map fun p => Va.d (pcD p)), .lst []]))[N + 1]? with
        | some (.lst xs) => (ds? xs).map D.lst
        | _ => none) = _
      rw [c3]
      rfl
    rw [d1, d2]
    dsimp only
    rw [if_pos ⟨okd_lst (okds_pc 57 ps), rfl⟩]
    cases ps <;> rfl
  by_cases q : ps = []
  · refine ⟨[], o2, fin [] o2 [.lst []] p2 ?_, p2, Nat.zero_le _, fun p hp => (by cases hp), fun p hp => (by cases hp)⟩
    have d1 : decide (ps ≠ []) = false := decide_eq_false (fun z => z q)
    unfold m_l_pieces
    simp only [mFun_eq', mSeq_eq, mIfS, mRet, mRetN, mAsg, mPar, mExpr, mSkip, mBrk, mCnt, mBad, mRaise, outE_ok, outT_ok, outE_er, seqO_nx, seqO_rt, seqO_er, retO_rt, retO_nx, retO_er, Res.bind_ok, Res.bind_er, Res.bind_bad, mVar_0, mVar_s, mVarI_0, mVarI_s, strip_ref, strip_non, strip_bl, strip_int, strip_str, strip_lst, strip_tup, strip_obj, strip_lck, strip_idn, mC, mBin, mUn, mTst, mCB, mCons, mNil, mStar, mAnd, mOr, mAndT, mOrT, mNotT, mIf, mTru, truV, mTup, mLst, ds?, ds?_map, mCall, withD, mFld, getF_o, getF_r, oNeg, oNot, oAbs, oMax, oMin, oI1, oI2, oInt, add_ii, sub_ii, lt_ii, le_ii, gt_ii, ge_ii, eq_ii, ne_ii, gN, gT_tup, gL_lst, gsC_cons, gsN_nil, List.map_cons, List.map_nil, List.length_cons, List.length_nil, List.cons_append, List.nil_append, List.append_nil, List.replicate_zero, List.replicate_succ, List.set_cons_zero, List.set_cons_succ, List.zip_cons_cons, List.zip_nil_right, List.foldl_cons, List.foldl_nil, Option.map_some, Option.map_none, Option.bind_some, Nat.reduceAdd, Nat.reduceSub, Nat.reduceEqDiff, Nat.reduceLT, Nat.reduceLeDiff, String.reduceEq, reduceCtorEq, Int.reduceLT, Int.reduceLE, Int.reduceEq, Int.reduceAdd, Int.reduceSub, Int.reduceNeg, Int.reduceMul, String.reduceBEq, decide_true, decide_false, if_true, if_false, ite_true, ite_false, Bool.false_eq_true, Bool.not_true, Bool.not_false, Bool.true_and, Bool.false_and, Bool.and_true, Bool.and_false, Bool.true_or, Bool.false_or, Bool.or_true, Bool.or_false, mLstC, hN, a0, c0, h1, a1, a2, ne, d1]
    rw [q]
    rfl
  · obtain ⟨qs, p, rfl⟩ : ∃ qs p, ps = qs ++ [p] := ⟨ps.dropLast, ps.getLast q, (List.dropLast_concat_getLast q).symm⟩
    have gp := h3 p (by simp)
    obtain ⟨d, o3, e3, d1', d2', p3⟩ := draw3 (tl := tl ++ [.lst ((qs ++ [p]).map fun p => Va.d (pcD p)), .lst []]) (n := s - 1) hk p2 (by omega) (by omega)
    refine ⟨qs ++ [(p.1.dropLast ++ [1 + d], p.2)], o3, fin _ o3 [.lst []] p3 ?_, p3, by rw [List.length_append] at hpl ⊢; exact hpl, fun r hr => ?_, fun r hr f hf => ?_⟩
    · have dd : decide (qs ++ [p] ≠ []) = true := decide_eq_true q
      have ix : oIx (.ref N) (.d (.int (-1))) (A ++ o2 :: (tl ++ [.lst ((qs ++ [p]).map fun p => Va.d (pcD p)), .lst []])) = .ok (.d (pcD p)) (A ++ o2 :: (tl ++ [.lst ((qs ++ [p]).map fun p => Va.d (pcD p)), .lst []])) := ix_ref N _ _ _ _ (c1 _ _ _) (atI_last _ _ (by rw [List.getLast?_map, List.getLast?_concat]; rfl))
      have sl : ∀ st, oSl (.d (fgD p.1)) none (some (-1)) st = .ok (.d (fgD p.1.dropLast)) st := fun st => by
        show Res.ok (Va.d (.tup (cutA (p.1.map D.int) none (some (-1))))) st = _
        rw [cut_last, ← List.map_dropLast]
      have ad := fun st => add_fg p.1.dropLast [1 + d] st (by have := gp.l4; simp; omega)
      have ad2 : ∀ st, oAdd (.d (fgD p.1.dropLast)) (.d (.tup [.int (1 + d)])) st = .ok (.d (fgD (p.1.dropLast ++ [1 + d]))) st := ad
      have g2 : gT 2 (gsC (gN 6) (gsC (gN 7) gsN)) (.d (pcD p)) [some (.ref k), some (.d (.int s)), some (.d (.int M)), some (.d (.int T)), some (.ref N), x5, x6, none, none] = some [some (.ref k), some (.d (.int s)), some (.d (.int M)), some (.d (.int T)), some (.ref N), x5, some (.d (fgD p.1)), some (.d (.int p.2)), none] := rfl
      have c1' : (1 ≤ cap) = True := eq_true (by decide)
      have c2' : (2 ≤ cap) = True := eq_true (by decide)
      have xn : ixN ((qs ++ [p]).map fun p => Va.d (pcD p)).length (-1) = some qs.length := by
        unfold ixN
        rw [List.length_map, List.length_append, List.length_singleton, if_neg (by decide), if_pos (by omega)]
        congr 1
        omega
      have st' : ((qs ++ [p]).map fun p => Va.d (pcD p)).set qs.length (.d (.tup [fgD (p.1.dropLast ++ [1 + d]), .int p.2])) = (qs ++ [(p.1.dropLast ++ [1 + d], p.2)]).map fun p => Va.d (pcD p) := by
        rw [List.map_append, List.map_append, List.set_append_right _ _ (by simp), List.length_map, Nat.sub_self]
        rfl
      unfold m_l_pieces
      simp only [mFun_eq', mSeq_eq, mIfS, mRet, mRetN, mAsg, mPar, mExpr, mSkip, mBrk, mCnt, mBad, mRaise, outE_ok, outT_ok, outE_er, seqO_nx, seqO_rt, seqO_er, retO_rt, retO_nx, retO_er, Res.bind_ok, Res.bind_er, Res.bind_bad, mVar_0, mVar_s, mVarI_0, mVarI_s, strip_ref, strip_non, strip_bl, strip_int, strip_str, strip_lst, strip_tup, strip_obj, strip_lck, strip_idn, mC, mBin, mUn, mTst, mCB, mCons, mNil, mStar, mAnd, mOr, mAndT, mOrT, mNotT, mIf, mTru, truV, mTup, mLst, ds?, ds?_map, mCall, withD, mFld, getF_o, getF_r, oNeg, oNot, oAbs, oMax, oMin, oI1, oI2, oInt, add_ii, sub_ii, lt_ii, le_ii, gt_ii, ge_ii, eq_ii, ne_ii, gN, gT_tup, gL_lst, gsC_cons, gsN_nil, List.map_cons, List.map_nil, List.length_cons, List.length_nil, List.cons_append, List.nil_append, List.append_nil, List.replicate_zero, List.replicate_succ, List.set_cons_zero, List.set_cons_succ, List.zip_cons_cons, List.zip_nil_right, List.foldl_cons, List.foldl_nil, Option.map_some, Option.map_none, Option.bind_some, Nat.reduceAdd, Nat.reduceSub, Nat.reduceEqDiff, Nat.reduceLT, Nat.reduceLeDiff, String.reduceEq, reduceCtorEq, Int.reduceLT, Int.reduceLE, Int.reduceEq, Int.reduceAdd, Int.reduceSub, Int.reduceNeg, Int.reduceMul, String.reduceBEq, decide_true, decide_false, if_true, if_false, ite_true, ite_false, Bool.false_eq_true, Bool.not_true, Bool.not_false, Bool.true_and, Bool.false_and, Bool.and_true, Bool.and_false, Bool.true_or, Bool.false_or, Bool.or_true, Bool.or_false, mLstC, hN, a0, c0, h1, a1, a2, ne, dd, ix, g2, mSetI, mSl, mNo, mPart, sl, e3, c1', c2', ad2, c1, xn, s1, st']
    · rcases List.mem_append.mp hr with hr | hr
      · exact h3 r (List.mem_append_left _ hr)
      · rw [List.mem_singleton.mp hr]
        have := gp.l1
        refine ⟨by simp, by simp; have := gp.l4; omega, gp.t1, gp.tT, fun f hf => ?_⟩
        rcases List.mem_append.mp hf with hf | hf
        · exact gp.fg f (List.dropLast_subset _ hf)
        · rw [List.mem_singleton.mp hf]; omega
    · rw [List.getLast?_concat] at hr
      cases hr
      rw [List.getLast?_concat] at hf
      cases hf
      omega

/-! P53l: remainders asked for; a number from a list of pieces; pools -/
theorem p18 (st : Sto) : oPow (.d (.int 10)) (.d (.int 18)) st = .ok (.d (.int 1000000000000000000)) st := by
  show (if CPow 10 18 then (Res.ok (.d (.int ((10 : Int) ^ (18 : Int).toNat))) st : Res Va) else .bad) = _
  rw [if_pos ⟨by decide, by decide, by decide⟩]
  rfl
theorem num_bd {s g : Int} {ps : List Pc} (h : GN s g ps) (hn : nfig ps ≤ 1000) : Bd 5000 (numI s g ps) := by
  have hs := h.s1
  have vb := valL_bd (s := s) (by omega) (figs_dig h.gd.pc)
  have b := bd_lt (bd_pow (by omega) h.s2 _) vb.1 vb.2
  have g4 : Bd 4 g := by unfold Bd; have := h.sg; omega
  exact (g4.mul b).mono (by rw [figs_len]; omega)
theorem p_lrests {A tl : Sto} {o : MO} {k : Nat} {s g : Int} {ps : List Pc} (hk : A.length = k) (ho : PoolO o) (h : GN s g ps) (hn : nfig ps ≤ 1000) :
    ∃ o', m_l_rests [.d (gnD s g ps), .d (.int (numI s g ps)), .ref k] (A ++ o :: tl) = .ok (.d (.bl true)) (A ++ o' :: tl) ∧ PoolO o' := by
  obtain ⟨d1, o1, e1, a1, a2, p1⟩ := draw3 (tl := tl) (n := 50) hk ho (by decide) (by decide)
  obtain ⟨d2, o2, e2, b1, b2, p2⟩ := draw3 (tl := tl) (n := 1000000000000000000) hk p1 (by decide) (by decide)
  refine ⟨o2, ?_, p2⟩
  have c5 : (5 ≤ cap) = True := eq_true (by decide)
  have it : mItS (mLst (mCons (mC (.int 1)) (mCons (mC (.int 2)) (mCons (mBin oAdd (mC (.int 1)) (mCall (withD [] m_l_draw) (mCons (mVar 2) (mCons (mC (.int 50)) mNil)))) (mCons (mBin oAdd (mC (.int 1)) (mCall (withD [] m_l_draw) (mCons (mVar 2) (mCons (mBin oPow (mC (.int 10)) (mC (.int 18))) mNil)))) (mCons (mBin oPow (mC (.int 10)) (mC (.int 18))) mNil)))))) [some (.d (gnD s g ps)), some (.d (.int (numI s g ps))), some (.ref k), none] (A ++ o :: tl) = .ok ⟨[1, 2, 1 + d1, 1 + d2, 1000000000000000000].map fun m => Va.d (.int m), none⟩ (A ++ o2 :: tl) := by
    rw [itS_lst (xs := [.int 1, .int 2, .int (1 + d1), .int (1 + d2), .int 1000000000000000000]) (st1 := A ++ o2 :: tl) (by simp only [mFun_eq', mSeq_eq, mIfS, mRet, mRetN, mAsg, mPar, mExpr, mSkip, mBrk, mCnt, mBad, mRaise, outE_ok, outT_ok, outE_er, seqO_nx, seqO_rt, seqO_er, retO_rt, retO_nx, retO_er, Res.bind_ok, Res.bind_er, Res.bind_bad, mVar_0, mVar_s, mVarI_0, mVarI_s, strip_ref, strip_non, strip_bl, strip_int, strip_str, strip_lst, strip_tup, strip_obj, strip_lck, strip_idn, mC, mBin, mUn, mTst, mCB, mCons, mNil, mStar, mAnd, mOr, mAndT, mOrT, mNotT, mIf, mTru, truV, mTup, mLst, ds?, ds?_map, mCall, withD, mFld, getF_o, getF_r, oNeg, oNot, oAbs, oMax, oMin, oI1, oI2, oInt, add_ii, sub_ii, lt_ii, le_ii, gt_ii, ge_ii, eq_ii, ne_ii, gN, gT_tup, gL_lst, gsC_cons, gsN_nil, List.map_cons, List.map_nil, List.length_cons, List.length_nil, List.cons_append, List.nil_append, List.append_nil, List.replicate_zero, List.replicate_succ, List.set_cons_zero, List.set_cons_succ, List.zip_cons_cons, List.zip_nil_right, List.foldl_cons, List.foldl_nil, Option.map_some, Option.map_none, Option.bind_some, Nat.reduceAdd, Nat.reduceSub, Nat.reduceEqDiff, Nat.reduceLT, Nat.reduceLeDiff, String.reduceEq, reduceCtorEq, Int.reduceLT, Int.reduceLE, Int.reduceEq, Int.reduceAdd, Int.reduceSub, Int.reduceNeg, Int.reduceMul, String.reduceBEq, decide_true, decide_false, if_true, if_false, ite_true, ite_false, Bool.false_eq_true, Bool.not_true, Bool.not_false, Bool.true_and, Bool.false_and, Bool.and_true, Bool.and_false, Bool.true_or, Bool.false_or, Bool.or_true, Bool.or_false, e1, e2, p18, c5])]
    rfl
  obtain ⟨ρ1, st1, h1, rfl, x, rfl⟩ := mFor_pre (tg := gN 3) (b := lf0_l_rests) (S := fun (_ : List Int) ρ st => st = A ++ o2 :: tl ∧ ∃ x, ρ = [some (.d (gnD s g ps)), some (.d (.int (numI s g ps))), some (.ref k), x]) _ it ⟨rfl, none, rfl⟩ fun l1 m l2 e ρ st hs => by
    obtain ⟨rfl, x, rfl⟩ := hs
    have hm : m ∈ [1, 2, 1 + d1, 1 + d2, 1000000000000000000] := by rw [e]; simp
    have hm2 : 0 < m ∧ m ≤ 10 ^ 18 := by
      simp only [List.mem_cons, List.not_mem_nil, or_false] at hm
      omega
    obtain ⟨m1, m2⟩ := hm2
    have mb : Bd 64 m := by unfold Bd; omega
    have nb := num_bd h hn
    have fb : Bd 5000 ((numI s g ps).fdiv m) := by
      rw [Int.fdiv_eq_ediv_of_nonneg _ (by omega)]
      exact Nat.lt_of_le_of_lt (Int.natAbs_ediv_le_natAbs _ _) nb
    have dv := fdiv_ok (i := numI s g ps) (j := m) (A ++ o2 :: tl) (mb.cdiv (by omega) (by decide))
    have mu := mul_ok (i := (numI s g ps).fdiv m) (j := m) (A ++ o2 :: tl) (fb.cmul mb (by decide))
    have rm := p_remainder h m1 m2 (A ++ o2 :: tl)
    have li := p_linteger ((g * valL s (figs ps)) % m) (numI s g ps - (numI s g ps).fdiv m * m) (A ++ o2 :: tl)
    have eq : (g * valL s (figs ps)) % m = numI s g ps - (numI s g ps).fdiv m * m := by
      rw [Int.fdiv_eq_ediv_of_nonneg _ (by omega), Int.emod_def, Int.mul_comm m]
      rfl
    rw [decide_eq_true eq] at li
    refine ⟨_, [some (.d (gnD s g ps)), some (.d (.int (numI s g ps))), some (.ref k), some (.d (.int m))], _, rfl, ?_, rfl, _, rfl⟩
    simp only [mFun_eq', mSeq_eq, mIfS, mRet, mRetN, mAsg, mPar, mExpr, mSkip, mBrk, mCnt, mBad, mRaise, outE_ok, outT_ok, outE_er, seqO_nx, seqO_rt, seqO_er, retO_rt, retO_nx, retO_er, Res.bind_ok, Res.bind_er, Res.bind_bad, mVar_0, mVar_s, mVarI_0, mVarI_s, strip_ref, strip_non, strip_bl, strip_int, strip_str, strip_lst, strip_tup, strip_obj, strip_lck, strip_idn, mC, mBin, mUn, mTst, mCB, mCons, mNil, mStar, mAnd, mOr, mAndT, mOrT, mNotT, mIf, mTru, truV, mTup, mLst, ds?, ds?_map, mCall, withD, mFld, getF_o, getF_r, oNeg, oNot, oAbs, oMax, oMin, oI1, oI2, oInt, add_ii, sub_ii, lt_ii, le_ii, gt_ii, ge_ii, eq_ii, ne_ii, gN, gT_tup, gL_lst, gsC_cons, gsN_nil, List.map_cons, List.map_nil, List.length_cons, List.length_nil, List.cons_append, List.nil_append, List.append_nil, List.replicate_zero, List.replicate_succ, List.set_cons_zero, List.set_cons_succ, List.zip_cons_cons, List.zip_nil_right, List.foldl_cons, List.foldl_nil, Option.map_some, Option.map_none, Option.bind_some, Nat.reduceAdd, Nat.reduceSub, Nat.reduceEqDiff, Nat.reduceLT, Nat.reduceLeDiff, String.reduceEq, reduceCtorEq, Int.reduceLT, Int.reduceLE, Int.reduceEq, Int.reduceAdd, Int.reduceSub, Int.reduceNeg, Int.reduceMul, String.reduceBEq, decide_true, decide_false, if_true, if_false, ite_true, ite_false, Bool.false_eq_true, Bool.not_true, Bool.not_false, Bool.true_and, Bool.false_and, Bool.and_true, Bool.and_false, Bool.true_or, Bool.false_or, Bool.or_true, Bool.or_false, lf0_l_rests, strip_gn, mMeth, obj_gn, lk_remainder, and_self, rm, dv, mu, li]
  unfold m_l_rests
  simp only [mFun_eq', mSeq_eq, mIfS, mRet, mRetN, mAsg, mPar, mExpr, mSkip, mBrk, mCnt, mBad, mRaise, outE_ok, outT_ok, outE_er, seqO_nx, seqO_rt, seqO_er, retO_rt, retO_nx, retO_er, Res.bind_ok, Res.bind_er, Res.bind_bad, mVar_0, mVar_s, mVarI_0, mVarI_s, strip_ref, strip_non, strip_bl, strip_int, strip_str, strip_lst, strip_tup, strip_obj, strip_lck, strip_idn, mC, mBin, mUn, mTst, mCB, mCons, mNil, mStar, mAnd, mOr, mAndT, mOrT, mNotT, mIf, mTru, truV, mTup, mLst, ds?, ds?_map, mCall, withD, mFld, getF_o, getF_r, oNeg, oNot, oAbs, oMax, oMin, oI1, oI2, oInt, add_ii, sub_ii, lt_ii, le_ii, gt_ii, ge_ii, eq_ii, ne_ii, gN, gT_tup, gL_lst, gsC_cons, gsN_nil, List.map_cons, List.map_nil, List.length_cons, List.length_nil, List.cons_append, List.nil_append, List.append_nil, List.replicate_zero, List.replicate_succ, List.set_cons_zero, List.set_cons_succ, List.zip_cons_cons, List.zip_nil_right, List.foldl_cons, List.foldl_nil, Option.map_some, Option.map_none, Option.bind_some, Nat.reduceAdd, Nat.reduceSub, Nat.reduceEqDiff, Nat.reduceLT, Nat.reduceLeDiff, String.reduceEq, reduceCtorEq, Int.reduceLT, Int.reduceLE, Int.reduceEq, Int.reduceAdd, Int.reduceSub, Int.reduceNeg, Int.reduceMul, String.reduceBEq, decide_true, decide_false, if_true, if_false, ite_true, ite_false, Bool.false_eq_true, Bool.not_true, Bool.not_false, Bool.true_and, Bool.false_and, Bool.and_true, Bool.and_false, Bool.true_or, Bool.false_or, Bool.or_true, Bool.or_false, h1]
theorem p_from {s side : Int} {ps : List Pc} {N : Nat} {st : Sto} (h : Good s ps) (hs : 2 ≤ s) (hs2 : s ≤ 10) (hg : side = 1 ∨ side = -1) (hN : st[N]? = some (.lst (ps.map fun p => Va.d (pcD p)))) :
    m_GreatNumber_from_pieces [.d (.cls "GreatNumber"), .d (.int s), .d (.int side), .ref N] st = .ok (.d (gnD s (sgn0 side ps) ps)) st := by
  have mk := p_init h hs hs2 hg st
  have rl : m_is_row_like [.ref N] st = .ok (.d (.bl true)) st := by
    have tg : tagOf (.ref N) st = some (.ty "list") := by
      unfold tagOf
      simp only [hN]
    have bb : ("list" == "list" || "list" == "tuple") = true := by decide
    unfold m_is_row_like
    simp only [mFun_eq', mSeq_eq, mIfS, mRet, mRetN, mAsg, mPar, mExpr, mSkip, mBrk, mCnt, mBad, mRaise, outE_ok, outT_ok, outE_er, seqO_nx, seqO_rt, seqO_er, retO_rt, retO_nx, retO_er, Res.bind_ok, Res.bind_er, Res.bind_bad, mVar_0, mVar_s, mVarI_0, mVarI_s, strip_ref, strip_non, strip_bl, strip_int, strip_str, strip_lst, strip_tup, strip_obj, strip_lck, strip_idn, mC, mBin, mUn, mTst, mCB, mCons, mNil, mStar, mAnd, mOr, mAndT, mOrT, mNotT, mIf, mTru, truV, mTup, mLst, ds?, ds?_map, mCall, withD, mFld, getF_o, getF_r, oNeg, oNot, oAbs, oMax, oMin, oI1, oI2, oInt, add_ii, sub_ii, lt_ii, le_ii, gt_ii, ge_ii, eq_ii, ne_ii, gN, gT_tup, gL_lst, gsC_cons, gsN_nil, List.map_cons, List.map_nil, List.length_cons, List.length_nil, List.cons_append, List.nil_append, List.append_nil, List.replicate_zero, List.replicate_succ, List.set_cons_zero, List.set_cons_succ, List.zip_cons_cons, List.zip_nil_right, List.foldl_cons, List.foldl_nil, Option.map_some, Option.map_none, Option.bind_some, Nat.reduceAdd, Nat.reduceSub, Nat.reduceEqDiff, Nat.reduceLT, Nat.reduceLeDiff, String.reduceEq, reduceCtorEq, Int.reduceLT, Int.reduceLE, Int.reduceEq, Int.reduceAdd, Int.reduceSub, Int.reduceNeg, Int.reduceMul, String.reduceBEq, decide_true, decide_false, if_true, if_false, ite_true, ite_false, Bool.false_eq_true, Bool.not_true, Bool.not_false, Bool.true_and, Bool.false_and, Bool.and_true, Bool.and_false, Bool.true_or, Bool.false_or, Bool.or_true, Bool.or_false, mIsiLT, tg, bb]
  have io : itemsOf (.ref N) st = some ((ps.map pcD).map Va.d) := by
    show (match st[N]? with
      | some (.lst xs) => some xs
      | _ => none) = _
    rw [hN, pcs_va]
  have g0 : ∀ x : List (Option Va), (some (Va.d (.cls "GreatNumber")) :: x)[0]? = some (some (.d (.cls "GreatNumber"))) := fun x => rfl
  unfold m_GreatNumber_from_pieces
  simp only [mFun_eq', mSeq_eq, mIfS, mRet, mRetN, mAsg, mPar, mExpr, mSkip, mBrk, mCnt, mBad, mRaise, outE_ok, outT_ok, outE_er, seqO_nx, seqO_rt, seqO_er, retO_rt, retO_nx, retO_er, Res.bind_ok, Res.bind_er, Res.bind_bad, mVar_0, mVar_s, mVarI_0, mVarI_s, strip_ref, strip_non, strip_bl, strip_int, strip_str, strip_lst, strip_tup, strip_obj, strip_lck, strip_idn, mC, mBin, mUn, mTst, mCB, mCons, mNil, mStar, mAnd, mOr, mAndT, mOrT, mNotT, mIf, mTru, truV, mTup, mLst, ds?, ds?_map, mCall, withD, mFld, getF_o, getF_r, oNeg, oNot, oAbs, oMax, oMin, oI1, oI2, oInt, add_ii, sub_ii, lt_ii, le_ii, gt_ii, ge_ii, eq_ii, ne_ii, gN, gT_tup, gL_lst, gsC_cons, gsN_nil, List.map_cons, List.map_nil, List.length_cons, List.length_nil, List.cons_append, List.nil_append, List.append_nil, List.replicate_zero, List.replicate_succ, List.set_cons_zero, List.set_cons_succ, List.zip_cons_cons, List.zip_nil_right, List.foldl_cons, List.foldl_nil, Option.map_some, Option.map_none, Option.bind_some, Nat.reduceAdd, Nat.reduceSub, Nat.reduceEqDiff, Nat.reduceLT, Nat.reduceLeDiff, String.reduceEq, reduceCtorEq, Int.reduceLT, Int.reduceLE, Int.reduceEq, Int.reduceAdd, Int.reduceSub, Int.reduceNeg, Int.reduceMul, String.reduceBEq, decide_true, decide_false, if_true, if_false, ite_true, ite_false, Bool.false_eq_true, Bool.not_true, Bool.not_false, Bool.true_and, Bool.false_and, Bool.and_true, Bool.and_false, Bool.true_or, Bool.false_or, Bool.or_true, Bool.or_false, rl, mVarC, g0, io, mk]
theorem pool2 {ns : List Int} {j : Nat} {st : Sto} (hj : j < 1000) : ∃ o, m_l_pool [.d (.lck ns), .d (.int j)] st = .ok (.ref st.length) (st ++ [o]) ∧ PoolO o := by
  rw [g_pool]
  have key : ∀ c : Int, ∃ s : Int, 0 ≤ s ∧ s < 2147483647 ∧ ∀ (ρ0 ρ1 : Option Va) (st : Sto), mAsg (mBin oMod (mBin oPow (mBin oAdd (mBin oAdd (mBin oMod (mCB oInt (mCons (mVar 2) mNil)) (mC (.int 2147483629))) (mBin oMul (mBin oMul (mC (.int 7919)) (mVar 1)) (mVar 1))) (mC (.int 31))) (mC (.int 3))) (mC (.int 2147483647))) (gN 3) [ρ0, some (.d (.int j)), some (.d (.int c)), ρ1] st = .nx [ρ0, some (.d (.int j)), some (.d (.int c)), some (.d (.int s))] st := fun c => by
    have g1 := fmod_pos (i := c) (j := 2147483629) (by decide)
    have hj1 : (7919 * (j : Int)).natAbs < 2 ^ 64 := by omega
    have b1 : (7919 * (j : Int) * j) ≤ 7919 * 1000 * 1000 := by
      have : (7919 * (j : Int)) * j ≤ (7919 * 1000) * 1000 := Int.mul_le_mul (by omega) (by omega) (by omega) (by omega)
      omega
    have b2 : 0 ≤ 7919 * (j : Int) * j := Int.mul_nonneg (by omega) (by omega)
    have a1 := fun st => mod_ok (i := c) (j := 2147483629) st (by decide)
    have a2 := fun st => mul_ok (i := 7919) (j := j) st (cmulw (by decide) (by omega))
    have a3 := fun st => mul_ok (i := 7919 * j) (j := j) st (cmulw hj1 (by omega))
    have a4 : ∀ st, oPow (.d (.int (c.fmod 2147483629 + 7919 * j * j + 31))) (.d (.int 3)) st = .ok (.d (.int ((c.fmod 2147483629 + 7919 * j * j + 31) ^ 3))) st := fun st => if_pos ⟨by decide, by decide, by omega⟩
    have a5 := fun i st => mod_ok (i := i) (j := 2147483647) st (by decide)
    have g2 := fmod_pos (i := (c.fmod 2147483629 + 7919 * j * j + 31) ^ 3) (j := 2147483647) (by decide)
    refine ⟨((c.fmod 2147483629 + 7919 * j * j + 31) ^ 3).fmod 2147483647, g2.1, g2.2, fun ρ0 ρ1 st => ?_⟩
    simp only [mFun_eq', mSeq_eq, mIfS, mRet, mRetN, mAsg, mPar, mExpr, mSkip, mBrk, mCnt, mBad, mRaise, outE_ok, outT_ok, outE_er, seqO_nx, seqO_rt, seqO_er, retO_rt, retO_nx, retO_er, Res.bind_ok, Res.bind_er, Res.bind_bad, mVar_0, mVar_s, mVarI_0, mVarI_s, strip_ref, strip_non, strip_bl, strip_int, strip_str, strip_lst, strip_tup, strip_obj, strip_lck, strip_idn, mC, mBin, mUn, mTst, mCB, mCons, mNil, mStar, mAnd, mOr, mAndT, mOrT, mNotT, mIf, mTru, truV, mTup, mLst, ds?, ds?_map, mCall, withD, mFld, getF_o, getF_r, oNeg, oNot, oAbs, oMax, oMin, oI1, oI2, oInt, add_ii, sub_ii, lt_ii, le_ii, gt_ii, ge_ii, eq_ii, ne_ii, gN, gT_tup, gL_lst, gsC_cons, gsN_nil, List.map_cons, List.map_nil, List.length_cons, List.length_nil, List.cons_append, List.nil_append, List.append_nil, List.replicate_zero, List.replicate_succ, List.set_cons_zero, List.set_cons_succ, List.zip_cons_cons, List.zip_nil_right, List.foldl_cons, List.foldl_nil, Option.map_some, Option.map_none, Option.bind_some, Nat.reduceAdd, Nat.reduceSub, Nat.reduceEqDiff, Nat.reduceLT, Nat.reduceLeDiff, String.reduceEq, reduceCtorEq, Int.reduceLT, Int.reduceLE, Int.reduceEq, Int.reduceAdd, Int.reduceSub, Int.reduceNeg, Int.reduceMul, String.reduceBEq, decide_true, decide_false, if_true, if_false, ite_true, ite_false, Bool.false_eq_true, Bool.not_true, Bool.not_false, Bool.true_and, Bool.false_and, Bool.and_true, Bool.and_false, Bool.true_or, Bool.false_or, Bool.or_true, Bool.or_false, a1, a2, a3, a4, a5]
  have fin : ∀ c : Int, ∃ o, retO (seqO (mSeq (mAsg (mBin oMod (mBin oPow (mBin oAdd (mBin oAdd (mBin oMod (mCB oInt (mCons (mVar 2) mNil)) (mC (.int 2147483629))) (mBin oMul (mBin oMul (mC (.int 7919)) (mVar 1)) (mVar 1))) (mC (.int 31))) (mC (.int 3))) (mC (.int 2147483647))) (gN 3))
      (mSeq (mIfS (mTst (mBin oLt (mVar 2) (mBin oPow (mC (.int 10)) (mC (.int 18))))) (mAsg (mC (.int 0)) (gN 2)) mSkip)
      (mRet (mLstC (mCons (mVar 2) (mCons (mVar 3) mNil))))) [some (.d (.lck ns)), some (.d (.int j)), some (.d (.int c)), none] st) mSkip) = .ok (.ref st.length) (st ++ [o]) ∧ PoolO o := fun c => by
    obtain ⟨s, s1, s2, e⟩ := key c
    rw [mSeq_eq, e, seqO_nx, mSeq_eq]
    by_cases q : c < 1000000000000000000
    · refine ⟨.lst [.d (.int 0), .d (.int s)], ?_, 0, s, rfl, s1, s2⟩
      simp only [mFun_eq', mSeq_eq, mIfS, mRet, mRetN, mAsg, mPar, mExpr, mSkip, mBrk, mCnt, mBad, mRaise, outE_ok, outT_ok, outE_er, seqO_nx, seqO_rt, seqO_er, retO_rt, retO_nx, retO_er, Res.bind_ok, Res.bind_er, Res.bind_bad, mVar_0, mVar_s, mVarI_0, mVarI_s, strip_ref, strip_non, strip_bl, strip_int, strip_str, strip_lst, strip_tup, strip_obj, strip_lck, strip_idn, mC, mBin, mUn, mTst, mCB, mCons, mNil, mStar, mAnd, mOr, mAndT, mOrT, mNotT, mIf, mTru, truV, mTup, mLst, ds?, ds?_map, mCall, withD, mFld, getF_o, getF_r, oNeg, oNot, oAbs, oMax, oMin, oI1, oI2, oInt, add_ii, sub_ii, lt_ii, le_ii, gt_ii, ge_ii, eq_ii, ne_ii, gN, gT_tup, gL_lst, gsC_cons, gsN_nil, List.map_cons, List.map_nil, List.length_cons, List.length_nil, List.cons_append, List.nil_append, List.append_nil, List.replicate_zero, List.replicate_succ, List.set_cons_zero, List.set_cons_succ, List.zip_cons_cons, List.zip_nil_right, List.foldl_cons, List.foldl_nil, Option.map_some, Option.map_none, Option.bind_some, Nat.reduceAdd, Nat.reduceSub, Nat.reduceEqDiff, Nat.reduceLT, Nat.reduceLeDiff, String.reduceEq, reduceCtorEq, Int.reduceLT, Int.reduceLE, Int.reduceEq, Int.reduceAdd, Int.reduceSub, Int.reduceNeg, Int.reduceMul, String.reduceBEq, decide_true, decide_false, if_true, if_false, ite_true, ite_false, Bool.false_eq_true, Bool.not_true, Bool.not_false, Bool.true_and, Bool.false_and, Bool.and_true, Bool.and_false, Bool.true_or, Bool.false_or, Bool.or_true, Bool.or_false, p18, q, decide_true, mLstC]
      rfl
    · refine ⟨.lst [.d (.int c), .d (.int s)], ?_, c, s, rfl, s1, s2⟩
      simp only [mFun_eq', mSeq_eq, mIfS, mRet, mRetN, mAsg, mPar, mExpr, mSkip, mBrk, mCnt, mBad, mRaise, outE_ok, outT_ok, outE_er, seqO_nx, seqO_rt, seqO_er, retO_rt, retO_nx, retO_er, Res.bind_ok, Res.bind_er, Res.bind_bad, mVar_0, mVar_s, mVarI_0, mVarI_s, strip_ref, strip_non, strip_bl, strip_int, strip_str, strip_lst, strip_tup, strip_obj, strip_lck, strip_idn, mC, mBin, mUn, mTst, mCB, mCons, mNil, mStar, mAnd, mOr, mAndT, mOrT, mNotT, mIf, mTru, truV, mTup, mLst, ds?, ds?_map, mCall, withD, mFld, getF_o, getF_r, oNeg, oNot, oAbs, oMax, oMin, oI1, oI2, oInt, add_ii, sub_ii, lt_ii, le_ii, gt_ii, ge_ii, eq_ii, ne_ii, gN, gT_tup, gL_lst, gsC_cons, gsN_nil, List.map_cons, List.map_nil, List.length_cons, List.length_nil, List.cons_append, List.nil_append, List.append_nil, List.replicate_zero, List.replicate_succ, List.set_cons_zero, List.set_cons_succ, List.zip_cons_cons, List.zip_nil_right, List.foldl_cons, List.foldl_nil, Option.map_some, Option.map_none, Option.bind_some, Nat.reduceAdd, Nat.reduceSub, Nat.reduceEqDiff, Nat.reduceLT, Nat.reduceLeDiff, String.reduceEq, reduceCtorEq, Int.reduceLT, Int.reduceLE, Int.reduceEq, Int.reduceAdd, Int.reduceSub, Int.reduceNeg, Int.reduceMul, String.reduceBEq, decide_true, decide_false, if_true, if_false, ite_true, ite_false, Bool.false_eq_true, Bool.not_true, Bool.not_false, Bool.true_and, Bool.false_and, Bool.and_true, Bool.and_false, Bool.true_or, Bool.false_or, Bool.or_true, Bool.or_false, p18, q, decide_false, mLstC]
      rfl
  have sk : ∀ o : Out, retO (seqO o mSkip) = retO o := fun o => by cases o <;> rfl
  unfold gPool
  by_cases q : j < ns.length
  · obtain ⟨st1, h1, h2⟩ := fin ns[j]
    refine ⟨st1, ?_, h2⟩
    rw [← h1, sk, mFun_eq' 2 4 _ _ _ rfl]
    have e1 : oLen [.d (.lck ns)] st = .ok (.d (.int ns.length)) st := rfl
    have e2 : decide ((j : Int) < ns.length) = true := decide_eq_true (by omega)
    have e3 : atI ns (j : Int) = some ns[j] := by
      unfold atI ixN
      rw [if_pos (by omega), if_pos (by omega)]
      show ns[((j : Int).toNat)]? = _
      rw [Int.toNat_natCast, List.getElem?_eq_getElem q]
    simp only [mFun_eq', mSeq_eq, mIfS, mRet, mRetN, mAsg, mPar, mExpr, mSkip, mBrk, mCnt, mBad, mRaise, outE_ok, outT_ok, outE_er, seqO_nx, seqO_rt, seqO_er, retO_rt, retO_nx, retO_er, Res.bind_ok, Res.bind_er, Res.bind_bad, mVar_0, mVar_s, mVarI_0, mVarI_s, strip_ref, strip_non, strip_bl, strip_int, strip_str, strip_lst, strip_tup, strip_obj, strip_lck, strip_idn, mC, mBin, mUn, mTst, mCB, mCons, mNil, mStar, mAnd, mOr, mAndT, mOrT, mNotT, mIf, mTru, truV, mTup, mLst, ds?, ds?_map, mCall, withD, mFld, getF_o, getF_r, oNeg, oNot, oAbs, oMax, oMin, oI1, oI2, oInt, add_ii, sub_ii, lt_ii, le_ii, gt_ii, ge_ii, eq_ii, ne_ii, gN, gT_tup, gL_lst, gsC_cons, gsN_nil, List.map_cons, List.map_nil, List.length_cons, List.length_nil, List.cons_append, List.nil_append, List.append_nil, List.replicate_zero, List.replicate_succ, List.set_cons_zero, List.set_cons_succ, List.zip_cons_cons, List.zip_nil_right, List.foldl_cons, List.foldl_nil, Option.map_some, Option.map_none, Option.bind_some, Nat.reduceAdd, Nat.reduceSub, Nat.reduceEqDiff, Nat.reduceLT, Nat.reduceLeDiff, String.reduceEq, reduceCtorEq, Int.reduceLT, Int.reduceLE, Int.reduceEq, Int.reduceAdd, Int.reduceSub, Int.reduceNeg, Int.reduceMul, String.reduceBEq, decide_true, decide_false, if_true, if_false, ite_true, ite_false, Bool.false_eq_true, Bool.not_true, Bool.not_false, Bool.true_and, Bool.false_and, Bool.and_true, Bool.and_false, Bool.true_or, Bool.false_or, Bool.or_true, Bool.or_false, e1, e2, ix_lck ns _ _ st e3]
  · obtain ⟨st1, h1, h2⟩ := fin 0
    refine ⟨st1, ?_, h2⟩
    rw [← h1, sk, mFun_eq' 2 4 _ _ _ rfl]
    have e1 : oLen [.d (.lck ns)] st = .ok (.d (.int ns.length)) st := rfl
    have e2 : decide ((j : Int) < ns.length) = false := decide_eq_false (by omega)
    simp only [mFun_eq', mSeq_eq, mIfS, mRet, mRetN, mAsg, mPar, mExpr, mSkip, mBrk, mCnt, mBad, mRaise, outE_ok, outT_ok, outE_er, seqO_nx, seqO_rt, seqO_er, retO_rt, retO_nx, retO_er, Res.bind_ok, Res.bind_er, Res.bind_bad, mVar_0, mVar_s, mVarI_0, mVarI_s, strip_ref, strip_non, strip_bl, strip_int, strip_str, strip_lst, strip_tup, strip_obj, strip_lck, strip_idn, mC, mBin, mUn, mTst, mCB, mCons, mNil, mStar, mAnd, mOr, mAndT, mOrT, mNotT, mIf, mTru, truV, mTup, mLst, ds?, ds?_map, mCall, withD, mFld, getF_o, getF_r, oNeg, oNot, oAbs, oMax, oMin, oI1, oI2, oInt, add_ii, sub_ii, lt_ii, le_ii, gt_ii, ge_ii, eq_ii, ne_ii, gN, gT_tup, gL_lst, gsC_cons, gsN_nil, List.map_cons, List.map_nil, List.length_cons, List.length_nil, List.cons_append, List.nil_append, List.append_nil, List.replicate_zero, List.replicate_succ, List.set_cons_zero, List.set_cons_succ, List.zip_cons_cons, List.zip_nil_right, List.foldl_cons, List.foldl_nil, Option.map_some, Option.map_none, Option.bind_some, Nat.reduceAdd, Nat.reduceSub, Nat.reduceEqDiff, Nat.reduceLT, Nat.reduceLeDiff, String.reduceEq, reduceCtorEq, Int.reduceLT, Int.reduceLE, Int.reduceEq, Int.reduceAdd, Int.reduceSub, Int.reduceNeg, Int.reduceMul, String.reduceBEq, decide_true, decide_false, if_true, if_false, ite_true, ite_false, Bool.false_eq_true, Bool.not_true, Bool.not_false, Bool.true_and, Bool.false_and, Bool.and_true, Bool.and_false, Bool.true_or, Bool.false_or, Bool.or_true, Bool.or_false, e1, e2]

/-! P53m: the law -/
theorem GoodL.good {s : Int} {T : Nat} {p : Pc} (h : GoodL s T p) (hT : T ≤ 10 ^ 30) : GoodP s p := ⟨h.l1, Nat.le_trans h.l4 (by decide), h.t1, Nat.le_trans h.tT hT, h.fg⟩
theorem nfig_le {s : Int} {T : Nat} : ∀ {ps : List Pc}, (∀ p ∈ ps, GoodL s T p) → nfig ps ≤ ps.length * (4 * T)
  | [], _ => Nat.zero_le _
  | p :: ps, h => by
    have e2 : nfig (p :: ps) = pcN p + nfig ps := by simp [nfig]
    have ih := nfig_le (ps := ps) fun q hq => h q (List.mem_cons_of_mem _ hq)
    have gp := h p (List.mem_cons_self ..)
    have : pcN p ≤ 4 * T := Nat.mul_le_mul gp.l4 gp.tT
    rw [e2, List.length_cons, Nat.succ_mul]
    omega
theorem eqN_int (s g i : Int) (ps : List Pc) (st : Sto) : pureF m_GreatNumber___eq__ [.d (gnD s g ps), .d (.int i)] st = .ok (.d (.bl false)) st := p_eqN rfl rfl st
theorem eqN_non (s g : Int) (ps : List Pc) (st : Sto) : pureF m_GreatNumber___eq__ [.d (gnD s g ps), .d .non] st = .ok (.d (.bl false)) st := p_eqN rfl rfl st
abbrev V13 := Option Va
theorem turn_law {A J : Sto} {o : MO} {k : Nat} {s : Int} {fs ns : List D} (hk : A.length = k) (ho : PoolO o) (hs : 2 ≤ s) (hs2 : s ≤ 10) (hf : fs.length ≤ 10) (hn : ns.length ≤ 10) (fA : FlatS A) (fJ : FlatS J) (x0 x1 x6 x7 x8 x9 x10 x11 x12 x13 : V13) :
    ∃ (g : Int) (ps : List Pc) (o' : MO) (J' : Sto) (y7 y8 y9 y10 y11 y12 : V13),
      lf0_law [x0, x1, some (.ref k), some (.d (.int s)), some (.ref (k + 1)), some (.ref (k + 2)), x6, x7, x8, x9, x10, x11, x12, x13] (A ++ o :: .lst (fs.map Va.d) :: .lst (ns.map Va.d) :: J) =
        .nx [x0, x1, some (.ref k), some (.d (.int s)), some (.ref (k + 1)), some (.ref (k + 2)), x6, y7, y8, y9, y10, y11, y12, x13] (A ++ o' :: .lst ((fs ++ [gnD s g ps]).map Va.d) :: .lst ((ns ++ [D.int (numI s g ps)]).map Va.d) :: J') ∧ PoolO o' ∧ FlatS J' ∧ GN s g ps := by
  have fT : FlatS (.lst (fs.map Va.d) :: .lst (ns.map Va.d) :: J) := fun c hc => by
    rcases List.mem_cons.mp hc with rfl | hc
    · exact ⟨fs, rfl⟩
    · rcases List.mem_cons.mp hc with rfl | hc
      · exact ⟨ns, rfl⟩
      · exact fJ c hc
  generalize htl : (MO.lst (fs.map Va.d) :: .lst (ns.map Va.d) :: J) = tl at fT
  obtain ⟨d, o1, e1, d1, d2, p1⟩ := draw3 (tl := tl) (n := 2) hk ho (by decide) (by decide)
  obtain ⟨ps, o2, e2, p2, hl, gl, top⟩ := p_lpieces (M := 4) (T := 5) (tl := tl) hk p1 hs hs2 (by decide) (by decide) (by decide) fA fT
  have e2' : trimF (withD [] m_l_pieces) [.ref k, .d (.int s), .d (.int 4), .d (.int 5)] (A ++ o1 :: tl) = .ok (.d (.lst (ps.map pcD))) (A ++ o2 :: tl) := by
    rw [show withD [] m_l_pieces = m_l_pieces from by funext ds st; show m_l_pieces (ds ++ []) st = _; rw [List.append_nil]]
    exact e2
  have gd : Good s ps := ⟨by omega, fun p hp => (gl p hp).good (by decide), top⟩
  have nf : nfig ps ≤ 80 := by have := nfig_le gl; omega
  obtain ⟨side, hside, ix⟩ : ∃ side : Int, (side = 1 ∨ side = -1) ∧ ∀ st, oIx (.d (.lst [.int 1, .int (-1)])) (.d (.int d)) st = .ok (.d (.int side)) st := by
    rcases (show d = 0 ∨ d = 1 by omega) with rfl | rfl
    · exact ⟨1, .inl rfl, fun st => rfl⟩
    · exact ⟨-1, .inr rfl, fun st => rfl⟩
  have hN : (A ++ o2 :: tl).length = A.length + 1 + tl.length := by simp; omega
  generalize hNe : A.length + 1 + tl.length = N at hN
  have e3 : oListC [.d (.lst (ps.map pcD))] (A ++ o2 :: tl) = .ok (.ref N) (A ++ o2 :: (tl ++ [.lst (ps.map fun p => Va.d (pcD p))])) := by
    show Res.ok (Va.ref (A ++ o2 :: tl).length) ((A ++ o2 :: tl) ++ [.lst ((ps.map pcD).map Va.d)]) = _
    rw [hN, pcs_va]
    simp
  have c1 : ∀ o c t, (A ++ o :: (tl ++ c :: t))[N]? = some c := fun o c t => by
    rw [show A ++ o :: (tl ++ c :: t) = (A ++ o :: tl) ++ c :: t by simp]
    exact get_mid (by simp; omega)
  have s1 : ∀ o c c' t, (A ++ o :: (tl ++ c :: t)).set N c' = A ++ o :: (tl ++ c' :: t) := fun o c c' t => by
    rw [show A ++ o :: (tl ++ c :: t) = (A ++ o :: tl) ++ c :: t by simp, set_mid (by simp; omega)]
    simp
  have e4 := p_from gd hs hs2 hside (c1 o2 (.lst (ps.map fun p => Va.d (pcD p))) [])
  have G : GN s (sgn0 side ps) ps := GN.mk' gd hs hs2 hside
  have gs : ps ≠ [] → sgn0 side ps = side := fun z => if_neg z
  have e5a : isLst (.ref N) (A ++ o2 :: (tl ++ [.lst (ps.map fun p => Va.d (pcD p))])) = true := by
    show (match (A ++ o2 :: (tl ++ [.lst (ps.map fun p => Va.d (pcD p))]))[N]? with
      | some (.lst _) => true
      | _ => false) = true
    rw [c1]
  have e5b : oClear (.ref N) [] (A ++ o2 :: (tl ++ [.lst (ps.map fun p => Va.d (pcD p))])) = .ok (.d .non) (A ++ o2 :: (tl ++ [.lst []])) := by
    show (match (A ++ o2 :: (tl ++ [.lst (ps.map fun p => Va.d (pcD p))]))[N]? with
      | some (MO.lst _) => Res.ok (Va.d .non) ((A ++ o2 :: (tl ++ [MO.lst (ps.map fun p => Va.d (pcD p))])).set N (MO.lst []))
      | _ => .bad) = _
    rw [c1, s1]
  have pp := fun st => p_pieces (s := s) (g := sgn0 side ps) (ps := ps) st
  have np := fun st => ne_pcs ps st
  have lf := fun st => p_lfigures gd.pc (by omega : nfig ps ≤ 1000) st
  have ln := fun st => p_lnumber (g := side) hs hs2 (figs_dig gd.pc) (by rw [figs_len]; omega) (by unfold Bd; omega) st
  have nm : side * valL s (figs ps) = numI s (sgn0 side ps) ps := by
    unfold numI
    by_cases q : ps = []
    · rw [q]; simp [figs, valL]
    · rw [gs q]
  rw [nm] at ln
  have is := fun st => p_lis G (by omega) hside gs st
  obtain ⟨o3, e6, p3⟩ := p_lrests (tl := tl ++ [.lst []]) hk p2 G (by omega)
  obtain ⟨c, o4, e7, c1', c2', p4⟩ := draw3 (tl := tl ++ [.lst []]) (n := 6) hk p3 (by decide) (by decide)
  obtain ⟨c, rfl⟩ := Int.eq_ofNat_of_zero_le c1'
  have tu := fun st => p_lturns (c := c) G (by omega) (by omega) (by omega) hside gs st
  have b1 := fun st => eqN_int s (sgn0 side ps) (numI s (sgn0 side ps) ps) ps st
  have b2 := fun st => eqN_non s (sgn0 side ps) ps st
  have tl' : tl ++ [.lst []] = .lst (fs.map Va.d) :: .lst (ns.map Va.d) :: (J ++ [.lst []]) := by rw [← htl]; simp
  have g1 : ∀ o F r, (A ++ o :: F :: r)[k + 1]? = some F := fun o F r => by
    rw [show A ++ o :: F :: r = (A ++ [o]) ++ F :: r by simp]
    exact get_mid (by simp; omega)
  have g2 : ∀ o F M r, (A ++ o :: F :: M :: r)[k + 2]? = some M := fun o F M r => by
    rw [show A ++ o :: F :: M :: r = (A ++ [o, F]) ++ M :: r by simp]
    exact get_mid (by simp; omega)
  have t1 : ∀ o F F' r, (A ++ o :: F :: r).set (k + 1) F' = A ++ o :: F' :: r := fun o F F' r => by
    rw [show A ++ o :: F :: r = (A ++ [o]) ++ F :: r by simp, set_mid (by simp; omega)]
    simp
  have t2 : ∀ o F M M' r, (A ++ o :: F :: M :: r).set (k + 2) M' = A ++ o :: F :: M' :: r := fun o F M M' r => by
    rw [show A ++ o :: F :: M :: r = (A ++ [o, F]) ++ M :: r by simp, set_mid (by simp; omega)]
    simp
  have a1a : isLst (.ref (k + 1)) (A ++ o4 :: (tl ++ [.lst []])) = true := by
    rw [tl']
    show (match (A ++ o4 :: .lst (fs.map Va.d) :: .lst (ns.map Va.d) :: (J ++ [.lst []]))[k + 1]? with
      | some (.lst _) => true
      | _ => false) = true
    rw [g1]
  have a1b : oAppend (.ref (k + 1)) [.d (gnD s (sgn0 side ps) ps)] (A ++ o4 :: (tl ++ [.lst []])) = .ok (.d .non) (A ++ o4 :: .lst ((fs ++ [gnD s (sgn0 side ps) ps]).map Va.d) :: .lst (ns.map Va.d) :: (J ++ [.lst []])) := by
    rw [tl']
    unfold oAppend
    dsimp only
    rw [g1]
    dsimp only
    rw [if_pos (by rw [List.length_map]; show _ < 1000000; omega), t1, List.map_append]
    rfl
  have a2a : isLst (.ref (k + 2)) (A ++ o4 :: .lst ((fs ++ [gnD s (sgn0 side ps) ps]).map Va.d) :: .lst (ns.map Va.d) :: (J ++ [.lst []])) = true := by
    show (match (A ++ o4 :: .lst ((fs ++ [gnD s (sgn0 side ps) ps]).map Va.d) :: .lst (ns.map Va.d) :: (J ++ [.lst []]))[k + 2]? with
      | some (.lst _) => true
      | _ => false) = true
    rw [g2]
  have a2b : oAppend (.ref (k + 2)) [.d (.int (numI s (sgn0 side ps) ps))] (A ++ o4 :: .lst ((fs ++ [gnD s (sgn0 side ps) ps]).map Va.d) :: .lst (ns.map Va.d) :: (J ++ [.lst []])) = .ok (.d .non) (A ++ o4 :: .lst ((fs ++ [gnD s (sgn0 side ps) ps]).map Va.d) :: .lst ((ns ++ [D.int (numI s (sgn0 side ps) ps)]).map Va.d) :: (J ++ [.lst []])) := by
    unfold oAppend
    dsimp only
    rw [g2]
    dsimp only
    rw [if_pos (by rw [List.length_map]; show _ < 1000000; omega), t2, List.map_append (l₁ := ns)]
    rfl
  refine ⟨sgn0 side ps, ps, o4, J ++ [.lst []], some (.d (.int side)), some (.d (.lst (ps.map pcD))), some (.ref N), some (.d (gnD s (sgn0 side ps) ps)), some (.d (fgD (figs ps))), some (.d (.int (numI s (sgn0 side ps) ps))), ?_, p4, fun c hc => ?_, G⟩
  · have c2 : (2 ≤ cap) = True := eq_true (by decide)
    simp only [mFun_eq', mSeq_eq, mIfS, mRet, mRetN, mAsg, mPar, mExpr, mSkip, mBrk, mCnt, mBad, mRaise, outE_ok, outT_ok, outE_er, seqO_nx, seqO_rt, seqO_er, retO_rt, retO_nx, retO_er, Res.bind_ok, Res.bind_er, Res.bind_bad, mVar_0, mVar_s, mVarI_0, mVarI_s, strip_ref, strip_non, strip_bl, strip_int, strip_str, strip_lst, strip_tup, strip_obj, strip_lck, strip_idn, mC, mBin, mUn, mTst, mCB, mCons, mNil, mStar, mAnd, mOr, mAndT, mOrT, mNotT, mIf, mTru, truV, mTup, mLst, ds?, ds?_map, mCall, withD, mFld, getF_o, getF_r, oNeg, oNot, oAbs, oMax, oMin, oI1, oI2, oInt, add_ii, sub_ii, lt_ii, le_ii, gt_ii, ge_ii, eq_ii, ne_ii, gN, gT_tup, gL_lst, gsC_cons, gsN_nil, List.map_cons, List.map_nil, List.length_cons, List.length_nil, List.cons_append, List.nil_append, List.append_nil, List.replicate_zero, List.replicate_succ, List.set_cons_zero, List.set_cons_succ, List.zip_cons_cons, List.zip_nil_right, List.foldl_cons, List.foldl_nil, Option.map_some, Option.map_none, Option.bind_some, Nat.reduceAdd, Nat.reduceSub, Nat.reduceEqDiff, Nat.reduceLT, Nat.reduceLeDiff, String.reduceEq, reduceCtorEq, Int.reduceLT, Int.reduceLE, Int.reduceEq, Int.reduceAdd, Int.reduceSub, Int.reduceNeg, Int.reduceMul, String.reduceBEq, decide_true, decide_false, if_true, if_false, ite_true, ite_false, Bool.false_eq_true, Bool.not_true, Bool.not_false, Bool.true_and, Bool.false_and, Bool.and_true, Bool.and_false, Bool.true_or, Bool.false_or, Bool.or_true, Bool.or_false, lf0_law, c2, e1, ix, e2', List.zip_cons_cons, List.zip_nil_right, List.foldl_cons, List.foldl_nil, List.set_cons_succ, List.set_cons_zero, e3, mCMeth, e4, strip_gn, mLM0, e5a, e5b, mMeth, obj_gn, lk_pieces, and_self, pp, np, lf, ln, is, e6, e7, tu, ownC_gi, ownC_g0, b1, b2, mLM, a1a, a1b, a2a, a2b]
  · rcases List.mem_append.mp hc with hc | hc
    · exact fJ c hc
    · rw [List.mem_singleton.mp hc]; exact ⟨[], rfl⟩
theorem alone_good {s : Int} (hs : 2 ≤ s) : Good s [([1], 2)] := by
  refine ⟨by decide, fun p hp => ?_, fun p hp f hf => ?_⟩
  · rw [List.mem_singleton.mp hp]
    exact ⟨by decide, by decide, by decide, by decide, fun f hf => by rw [List.mem_singleton.mp hf]; omega⟩
  · cases hp
    cases hf
    decide
theorem turn_all {A : Sto} {ns : List Int} {j : Nat} (hj : j < 1000) (fA : FlatS A) (x2 x3 x4 x5 x6 x7 x8 x9 x10 x11 x12 x13 : V13) :
    ∃ (st1 : Sto) (y2 y3 y4 y5 y6 y7 y8 y9 y10 y11 y12 y13 : V13), lf1_law [some (.d (.lck ns)), some (.d (.int j)), x2, x3, x4, x5, x6, x7, x8, x9, x10, x11, x12, x13] A = .nx [some (.d (.lck ns)), some (.d (.int j)), y2, y3, y4, y5, y6, y7, y8, y9, y10, y11, y12, y13] st1 ∧ FlatS st1 := by
  obtain ⟨o, e1, p1⟩ := pool2 (ns := ns) (st := A) hj
  obtain ⟨d, o1, e2, d1, d2, p2⟩ := draw3 (A := A) (tl := []) (n := 9) rfl p1 (by decide) (by decide)
  have hs : 2 ≤ 2 + d := by omega
  have hs2 : 2 + d ≤ 10 := by omega
  generalize hse : 2 + d = s at hs hs2
  have l1 : (A ++ [o1]).length = A.length + 1 := by simp
  have l2 : (A ++ [o1] ++ [MO.lst []]).length = A.length + 2 := by simp
  have aa : A ++ [o1] ++ [MO.lst []] ++ [MO.lst []] = A ++ o1 :: .lst [] :: .lst [] :: [] := by simp
  have it : mItR1 (mCons (mC (.int 2)) mNil) [some (.d (.lck ns)), some (.d (.int j)), some (.ref A.length), some (.d (.int s)), some (.ref (A.length + 1)), some (.ref (A.length + 2)), x6, x7, x8, x9, x10, x11, x12, x13] (A ++ o1 :: .lst [] :: .lst [] :: []) = .ok ⟨rangeV 0 2, none⟩ (A ++ o1 :: .lst [] :: .lst [] :: []) := by
    have ir : inR 2 = true := by decide
    simp only [mFun_eq', mSeq_eq, mIfS, mRet, mRetN, mAsg, mPar, mExpr, mSkip, mBrk, mCnt, mBad, mRaise, outE_ok, outT_ok, outE_er, seqO_nx, seqO_rt, seqO_er, retO_rt, retO_nx, retO_er, Res.bind_ok, Res.bind_er, Res.bind_bad, mVar_0, mVar_s, mVarI_0, mVarI_s, strip_ref, strip_non, strip_bl, strip_int, strip_str, strip_lst, strip_tup, strip_obj, strip_lck, strip_idn, mC, mBin, mUn, mTst, mCB, mCons, mNil, mStar, mAnd, mOr, mAndT, mOrT, mNotT, mIf, mTru, truV, mTup, mLst, ds?, ds?_map, mCall, withD, mFld, getF_o, getF_r, oNeg, oNot, oAbs, oMax, oMin, oI1, oI2, oInt, add_ii, sub_ii, lt_ii, le_ii, gt_ii, ge_ii, eq_ii, ne_ii, gN, gT_tup, gL_lst, gsC_cons, gsN_nil, List.map_cons, List.map_nil, List.length_cons, List.length_nil, List.cons_append, List.nil_append, List.append_nil, List.replicate_zero, List.replicate_succ, List.set_cons_zero, List.set_cons_succ, List.zip_cons_cons, List.zip_nil_right, List.foldl_cons, List.foldl_nil, Option.map_some, Option.map_none, Option.bind_some, Nat.reduceAdd, Nat.reduceSub, Nat.reduceEqDiff, Nat.reduceLT, Nat.reduceLeDiff, String.reduceEq, reduceCtorEq, Int.reduceLT, Int.reduceLE, Int.reduceEq, Int.reduceAdd, Int.reduceSub, Int.reduceNeg, Int.reduceMul, String.reduceBEq, decide_true, decide_false, if_true, if_false, ite_true, ite_false, Bool.false_eq_true, Bool.not_true, Bool.not_false, Bool.true_and, Bool.false_and, Bool.and_true, Bool.and_false, Bool.true_or, Bool.false_or, Bool.or_true, Bool.or_false, mItR1, ir]
    rfl
  obtain ⟨ρ1, st1, h1, gs, o2, J, z6, z7, z8, z9, z10, z11, z12, hg, hG, p3, fJ, rfl, rfl⟩ := mFor_inv (tg := gN 6) (b := lf0_law) (I := fun i ρ st => ∃ (gs : List (Int × List Pc)) (o : MO) (J : Sto) (z6 z7 z8 z9 z10 z11 z12 : V13), gs.length = i ∧ (∀ g ∈ gs, GN s g.1 g.2) ∧ PoolO o ∧ FlatS J ∧ ρ = [some (.d (.lck ns)), some (.d (.int j)), some (.ref A.length), some (.d (.int s)), some (.ref (A.length + 1)), some (.ref (A.length + 2)), z6, z7, z8, z9, z10, z11, z12, x13] ∧ st = A ++ o :: .lst ((gs.map fun g => gnD s g.1 g.2).map Va.d) :: .lst ((gs.map fun g => D.int (numI s g.1 g.2)).map Va.d) :: J) it
    ⟨[], o1, [], x6, x7, x8, x9, x10, x11, x12, rfl, fun g hg => (by cases hg), p2, fun c hc => (by cases hc), rfl, rfl⟩ fun i x hx ρ st hi => by
      obtain ⟨gs, o, J, z6, z7, z8, z9, z10, z11, z12, hg, hG, p, fJ, rfl, rfl⟩ := hi
      have hi2 := (rangeV_get hx).2
      obtain ⟨g, ps, o', J', y7, y8, y9, y10, y11, y12, e, p', fJ', hgn⟩ := turn_law (A := A) (J := J) (s := s) (fs := gs.map fun g => gnD s g.1 g.2) (ns := gs.map fun g => D.int (numI s g.1 g.2)) rfl p hs hs2 (by rw [List.length_map]; omega) (by rw [List.length_map]; omega) fA fJ (some (.d (.lck ns))) (some (.d (.int j))) (some x) z7 z8 z9 z10 z11 z12 x13
      refine ⟨_, _, _, rfl, e, gs ++ [(g, ps)], o', J', some x, y7, y8, y9, y10, y11, y12, by rw [List.length_append, hg]; rfl, fun q hq => ?_, p', fJ', rfl, ?_⟩
      · rcases List.mem_append.mp hq with hq | hq
        · exact hG q hq
        · rw [List.mem_singleton.mp hq]; exact hgn
      · rw [List.map_append (l₁ := gs), List.map_append (l₁ := gs)]
        rfl
  obtain ⟨⟨g1, ps⟩, ⟨g2, qs⟩, rfl⟩ : ∃ a b, gs = [a, b] := by
    match gs, hg with
    | [a, b], _ => exact ⟨a, b, rfl⟩
  have G1 : GN s g1 ps := hG (g1, ps) (by simp)
  have G2 : GN s g2 qs := hG (g2, qs) (by simp)
  have gt1 : (A ++ o2 :: .lst [Va.d (gnD s g1 ps), .d (gnD s g2 qs)] :: .lst [Va.d (.int (numI s g1 ps)), .d (.int (numI s g2 qs))] :: J)[A.length + 1]? = some (.lst [Va.d (gnD s g1 ps), .d (gnD s g2 qs)]) := by
    rw [show A ++ o2 :: .lst [Va.d (gnD s g1 ps), .d (gnD s g2 qs)] :: .lst [Va.d (.int (numI s g1 ps)), .d (.int (numI s g2 qs))] :: J = (A ++ [o2]) ++ .lst [Va.d (gnD s g1 ps), .d (gnD s g2 qs)] :: .lst [Va.d (.int (numI s g1 ps)), .d (.int (numI s g2 qs))] :: J by simp]
    exact get_mid (by simp)
  have gt2 : (A ++ o2 :: .lst [Va.d (gnD s g1 ps), .d (gnD s g2 qs)] :: .lst [Va.d (.int (numI s g1 ps)), .d (.int (numI s g2 qs))] :: J)[A.length + 2]? = some (.lst [Va.d (.int (numI s g1 ps)), .d (.int (numI s g2 qs))]) := by
    rw [show A ++ o2 :: .lst [Va.d (gnD s g1 ps), .d (gnD s g2 qs)] :: .lst [Va.d (.int (numI s g1 ps)), .d (.int (numI s g2 qs))] :: J = (A ++ [o2, .lst [Va.d (gnD s g1 ps), .d (gnD s g2 qs)]]) ++ .lst [Va.d (.int (numI s g1 ps)), .d (.int (numI s g2 qs))] :: J by simp]
    exact get_mid (by simp)
  have h1' : mFor (mItR1 (mCons (mC (.int 2)) mNil)) (gN 6) lf0_law [some (.d (.lck ns)), some (.d (.int j)), some (.ref A.length), some (.d (.int s)), some (.ref (A.length + 1)), some (.ref (A.length + 2)), x6, x7, x8, x9, x10, x11, x12, x13] (A ++ o1 :: .lst [] :: .lst [] :: []) = .nx [some (.d (.lck ns)), some (.d (.int j)), some (.ref A.length), some (.d (.int s)), some (.ref (A.length + 1)), some (.ref (A.length + 2)), z6, z7, z8, z9, z10, z11, z12, x13] (A ++ o2 :: .lst [Va.d (gnD s g1 ps), .d (gnD s g2 qs)] :: .lst [Va.d (.int (numI s g1 ps)), .d (.int (numI s g2 qs))] :: J) := h1
  have fl : FlatS (A ++ o2 :: .lst [Va.d (gnD s g1 ps), .d (gnD s g2 qs)] :: .lst [Va.d (.int (numI s g1 ps)), .d (.int (numI s g2 qs))] :: J) := fun c hc => by
    rcases List.mem_append.mp hc with hc | hc
    · exact fA c hc
    · rcases List.mem_cons.mp hc with rfl | hc
      · exact p3.flat
      · rcases List.mem_cons.mp hc with rfl | hc
        · exact ⟨[_, _], rfl⟩
        · rcases List.mem_cons.mp hc with rfl | hc
          · exact ⟨[_, _], rfl⟩
          · exact fJ c hc
  have od := p_lorder G1 G2 gt2
  have i0 := ix_ref0 gt1
  have i1 := ix_ref1 gt1
  generalize (A ++ o2 :: .lst [Va.d (gnD s g1 ps), .d (gnD s g2 qs)] :: .lst [Va.d (.int (numI s g1 ps)), .d (.int (numI s g2 qs))] :: J) = S at h1' fl od i0 i1
  have q1 := p_eq G1 G1 S
  rw [decide_eq_true rfl] at q1
  have q2 := p_lt G1 G1 S
  rw [decide_eq_false (Int.lt_irrefl _)] at q2
  have c0 : (0 ≤ cap) = True := eq_true (by decide)
  have c1 : (1 ≤ cap) = True := eq_true (by decide)
  have c2 : (2 ≤ cap) = True := eq_true (by decide)
  obtain ⟨s', hs', hs1, hs2', hne⟩ : ∃ s' : Int, s' = (if s < 9 then 11 - s else 3) ∧ 2 ≤ s' ∧ s' ≤ 10 ∧ s ≠ s' := ⟨_, rfl, by split <;> omega, by split <;> omega, by split <;> omega⟩
  have mk : makeP "GreatNumber" m_GreatNumber___init__ [.d (.int s'), .d (.int 1), .d (.tup [.tup [.int 1], .int 2])] S = .ok (.d (gnD s' 1 [([1], 2)])) S := p_init (g := 1) (alone_good hs1) hs1 hs2' (.inl rfl) S
  have no := p_lnoorder (g1 := g1) (g2 := 1) (ps := ps) (qs := [([1], 2)]) hne S
  have bs := p_size s' 1 [([1], 2)] S
  have dn : decide (s = s') = false := decide_eq_false hne
  refine ⟨S, some (.ref A.length), some (.d (.int s)), some (.ref (A.length + 1)), some (.ref (A.length + 2)), z6, z7, z8, z9, z10, z11, z12, some (.d (gnD s' 1 [([1], 2)])), ?_, fl⟩
  by_cases q : s < 9
  · rw [if_pos q] at hs'
    have dq : decide (s < 9) = true := decide_eq_true q
    rw [hs'] at mk no bs dn ⊢
    simp only [mFun_eq', mSeq_eq, mIfS, mRet, mRetN, mAsg, mPar, mExpr, mSkip, mBrk, mCnt, mBad, mRaise, outE_ok, outT_ok, outE_er, seqO_nx, seqO_rt, seqO_er, retO_rt, retO_nx, retO_er, Res.bind_ok, Res.bind_er, Res.bind_bad, mVar_0, mVar_s, mVarI_0, mVarI_s, strip_ref, strip_non, strip_bl, strip_int, strip_str, strip_lst, strip_tup, strip_obj, strip_lck, strip_idn, mC, mBin, mUn, mTst, mCB, mCons, mNil, mStar, mAnd, mOr, mAndT, mOrT, mNotT, mIf, mTru, truV, mTup, mLst, ds?, ds?_map, mCall, withD, mFld, getF_o, getF_r, oNeg, oNot, oAbs, oMax, oMin, oI1, oI2, oInt, add_ii, sub_ii, lt_ii, le_ii, gt_ii, ge_ii, eq_ii, ne_ii, gN, gT_tup, gL_lst, gsC_cons, gsN_nil, List.map_cons, List.map_nil, List.length_cons, List.length_nil, List.cons_append, List.nil_append, List.append_nil, List.replicate_zero, List.replicate_succ, List.set_cons_zero, List.set_cons_succ, List.zip_cons_cons, List.zip_nil_right, List.foldl_cons, List.foldl_nil, Option.map_some, Option.map_none, Option.bind_some, Nat.reduceAdd, Nat.reduceSub, Nat.reduceEqDiff, Nat.reduceLT, Nat.reduceLeDiff, String.reduceEq, reduceCtorEq, Int.reduceLT, Int.reduceLE, Int.reduceEq, Int.reduceAdd, Int.reduceSub, Int.reduceNeg, Int.reduceMul, String.reduceBEq, decide_true, decide_false, if_true, if_false, ite_true, ite_false, Bool.false_eq_true, Bool.not_true, Bool.not_false, Bool.true_and, Bool.false_and, Bool.and_true, Bool.and_false, Bool.true_or, Bool.false_or, Bool.or_true, Bool.or_false, lf1_law, e1, e2, hse, mLstC, c0, l1, l2, List.zip_cons_cons, List.zip_nil_right, List.foldl_cons, List.foldl_nil, List.set_cons_succ, List.set_cons_zero, aa, h1', i0, i1, od, strip_gn, ownC_gg, q1, q2, c1, c2, dq, mk, mProp, noEr, obj_gn, bs, dn, no]
  · rw [if_neg q] at hs'
    have dq : decide (s < 9) = false := decide_eq_false q
    rw [hs'] at mk no bs dn ⊢
    simp only [mFun_eq', mSeq_eq, mIfS, mRet, mRetN, mAsg, mPar, mExpr, mSkip, mBrk, mCnt, mBad, mRaise, outE_ok, outT_ok, outE_er, seqO_nx, seqO_rt, seqO_er, retO_rt, retO_nx, retO_er, Res.bind_ok, Res.bind_er, Res.bind_bad, mVar_0, mVar_s, mVarI_0, mVarI_s, strip_ref, strip_non, strip_bl, strip_int, strip_str, strip_lst, strip_tup, strip_obj, strip_lck, strip_idn, mC, mBin, mUn, mTst, mCB, mCons, mNil, mStar, mAnd, mOr, mAndT, mOrT, mNotT, mIf, mTru, truV, mTup, mLst, ds?, ds?_map, mCall, withD, mFld, getF_o, getF_r, oNeg, oNot, oAbs, oMax, oMin, oI1, oI2, oInt, add_ii, sub_ii, lt_ii, le_ii, gt_ii, ge_ii, eq_ii, ne_ii, gN, gT_tup, gL_lst, gsC_cons, gsN_nil, List.map_cons, List.map_nil, List.length_cons, List.length_nil, List.cons_append, List.nil_append, List.append_nil, List.replicate_zero, List.replicate_succ, List.set_cons_zero, List.set_cons_succ, List.zip_cons_cons, List.zip_nil_right, List.foldl_cons, List.foldl_nil, Option.map_some, Option.map_none, Option.bind_some, Nat.reduceAdd, Nat.reduceSub, Nat.reduceEqDiff, Nat.reduceLT, Nat.reduceLeDiff, String.reduceEq, reduceCtorEq, Int.reduceLT, Int.reduceLE, Int.reduceEq, Int.reduceAdd, Int.reduceSub, Int.reduceNeg, Int.reduceMul, String.reduceBEq, decide_true, decide_false, if_true, if_false, ite_true, ite_false, Bool.false_eq_true, Bool.not_true, Bool.not_false, Bool.true_and, Bool.false_and, Bool.and_true, Bool.and_false, Bool.true_or, Bool.false_or, Bool.or_true, Bool.or_false, lf1_law, e1, e2, hse, mLstC, c0, l1, l2, List.zip_cons_cons, List.zip_nil_right, List.foldl_cons, List.foldl_nil, List.set_cons_succ, List.set_cons_zero, aa, h1', i0, i1, od, strip_gn, ownC_gg, q1, q2, c1, c2, dq, mk, mProp, noEr, obj_gn, bs, dn, no]
theorem law_true (ns : List Int) (h : ns.length ≤ 63) : ∃ st, m_law [.d (.lck ns)] [] = .ok (.d (.bl true)) st := by
  have ln : oLen [.d (.lck ns)] [] = .ok (.d (.int ns.length)) [] := rfl
  obtain ⟨m, hm, mm⟩ : ∃ m : Nat, (if (if 8 < (ns.length : Int) then 8 else (ns.length : Int)) > 1 then if 8 < (ns.length : Int) then 8 else (ns.length : Int) else 1) = (m : Int) ∧ m ≤ 8 := ⟨(if (if 8 < (ns.length : Int) then 8 else (ns.length : Int)) > 1 then if 8 < (ns.length : Int) then 8 else (ns.length : Int) else 1).toNat, by omega, by omega⟩
  have ir : inR (m : Int) = true := by unfold inR; simp; omega
  have it : mItR1 (mCons (mCB oMax (mCons (mC (.int 1)) (mCons (mCB oMin (mCons (mCB oLen (mCons (mVar 0) mNil)) (mCons (mC (.int 8)) mNil))) mNil))) mNil) [some (.d (.lck ns)), none, none, none, none, none, none, none, none, none, none, none, none, none] [] = .ok ⟨rangeV 0 m, none⟩ [] := by
    simp only [mFun_eq', mSeq_eq, mIfS, mRet, mRetN, mAsg, mPar, mExpr, mSkip, mBrk, mCnt, mBad, mRaise, outE_ok, outT_ok, outE_er, seqO_nx, seqO_rt, seqO_er, retO_rt, retO_nx, retO_er, Res.bind_ok, Res.bind_er, Res.bind_bad, mVar_0, mVar_s, mVarI_0, mVarI_s, strip_ref, strip_non, strip_bl, strip_int, strip_str, strip_lst, strip_tup, strip_obj, strip_lck, strip_idn, mC, mBin, mUn, mTst, mCB, mCons, mNil, mStar, mAnd, mOr, mAndT, mOrT, mNotT, mIf, mTru, truV, mTup, mLst, ds?, ds?_map, mCall, withD, mFld, getF_o, getF_r, oNeg, oNot, oAbs, oMax, oMin, oI1, oI2, oInt, add_ii, sub_ii, lt_ii, le_ii, gt_ii, ge_ii, eq_ii, ne_ii, gN, gT_tup, gL_lst, gsC_cons, gsN_nil, List.map_cons, List.map_nil, List.length_cons, List.length_nil, List.cons_append, List.nil_append, List.append_nil, List.replicate_zero, List.replicate_succ, List.set_cons_zero, List.set_cons_succ, List.zip_cons_cons, List.zip_nil_right, List.foldl_cons, List.foldl_nil, Option.map_some, Option.map_none, Option.bind_some, Nat.reduceAdd, Nat.reduceSub, Nat.reduceEqDiff, Nat.reduceLT, Nat.reduceLeDiff, String.reduceEq, reduceCtorEq, Int.reduceLT, Int.reduceLE, Int.reduceEq, Int.reduceAdd, Int.reduceSub, Int.reduceNeg, Int.reduceMul, String.reduceBEq, decide_true, decide_false, if_true, if_false, ite_true, ite_false, Bool.false_eq_true, Bool.not_true, Bool.not_false, Bool.true_and, Bool.false_and, Bool.and_true, Bool.and_false, Bool.true_or, Bool.false_or, Bool.or_true, Bool.or_false, ln, mItR1, hm, ir, Int.toNat_natCast]
  obtain ⟨ρ1, st1, h1, y1, y2, y3, y4, y5, y6, y7, y8, y9, y10, y11, y12, y13, rfl, fl⟩ := mFor_inv (tg := gN 1) (b := lf1_law) (I := fun i ρ st => ∃ y1 y2 y3 y4 y5 y6 y7 y8 y9 y10 y11 y12 y13 : V13, ρ = [some (.d (.lck ns)), y1, y2, y3, y4, y5, y6, y7, y8, y9, y10, y11, y12, y13] ∧ FlatS st) it
    ⟨none, none, none, none, none, none, none, none, none, none, none, none, none, rfl, fun c hc => (by cases hc)⟩ fun i x hx ρ st hi => by
      obtain ⟨y1, y2, y3, y4, y5, y6, y7, y8, y9, y10, y11, y12, y13, rfl, fl⟩ := hi
      obtain ⟨rfl, hi2⟩ := rangeV_get hx
      obtain ⟨st1, z2, z3, z4, z5, z6, z7, z8, z9, z10, z11, z12, z13, e, fl1⟩ := turn_all (A := st) (ns := ns) (j := i) (by omega) fl y2 y3 y4 y5 y6 y7 y8 y9 y10 y11 y12 y13
      rw [← Int.zero_add (i : Int)] at e
      exact ⟨_, _, _, rfl, e, _, z2, z3, z4, z5, z6, z7, z8, z9, z10, z11, z12, z13, rfl, fl1⟩
  refine ⟨st1, ?_⟩
  unfold m_law
  rw [mFun_eq' 1 14 _ _ _ rfl]
  show retO (b_law [some (.d (.lck ns)), none, none, none, none, none, none, none, none, none, none, none, none, none] []) = _
  unfold b_law
  rw [mSeq_eq, h1]
  rfl

def loose0 : List Str := ["__name__", "InvalidNumber", "InvalidBase", "InvalidPieces", "InvalidSign", "Unlike", "LimitExceeded", "__name__", "is_integer", "is_between", "is_row_like", "is_sign", "__name__", "MOST_TIMES", "MOST_MODULUS", "MOST_PLAIN", "is_piece", "require_pieces", "require_modulus", "joined", "block_of", "repeated", "figure_at", "compared", "GreatNumber", "__name__", "_law_pool", "_law_draw", "_law_choose", "_law_pieces"]
def loose1 : List Str := ["_law_figures", "_law_number", "_law_integer", "_law_is", "_law_turns", "_law_rests", "_law_order", "_law_no_order"]
def looseA : List Str := loose0 ++ loose1
abbrev RR : PySem.W.OpenRow := PySem.W.OpenLaw.row PySem.Challenge.rw_twodivisions_k53_great_numbers_written_o
abbrev hk : PySem.W.Hook := hookM 5 tab exK fns
def ob (s : PySem.W.SharedT) : He.AlD := obsMG 5 tab exK fns (HandSHeadRun.getT s)
theorem ob_eq (s : PySem.W.SharedT) : ob s = hk.obs s.abs := obsMG_eq (HandSHeadRun.getT_eq s)
theorem headRun (w : World) : HandSHeadRun.RunEq RR (PySem.W.view RR.prog [38]) hk ob 20000 looseA w := by
  intro os
  kernel_rfl
theorem facts {P : Program} {w : World} {K : PySem.W.Frag} {h : Heap} {mg : Str → Option Value} {f : Addr} (X : K.In h) (G : h.Ns mainGlobals mg) (hfa : mg ("law" : Str) = some (.ref f)) (c : SaysM tab exK fns K) :
    ∃ (fd : FuncData) (sp : Sp), (∀ (s : Shared) (v : Value), BindsTo s fd ⟨[v], []⟩ [("_law_script", v)]) ∧ (∀ (H : Hp) (a : Addr) (ns : List Int), ns.length ≤ 63 → SqL K H a (ns.map V.int) → sp [.ref a] H (fun v _ => v = .bl true) fun _ _ _ => False) ∧ ∀ base : Heap, K.In base → base.Ns mainGlobals mg → FnOk P w K mg base (L2.CX P w) 11 f fd ["_law_script"] sp := by
  have T : Tx tab exK fns K mg := ⟨c, fun x o e => by
    cases o with
    | none => exact PySem.W.mg_none_of X G e
    | some v => exact PySem.W.mg_of X G e⟩
  have e := hfa.symm.trans (T.gl 25)
  cases e
  obtain ⟨fd, F⟩ := c.def_ 39
  have b := FunD.bindsA (ps := ["_law_script"]) F fun _ _ _ _ _ _ us hl => match us, hl with | [_], _ => rfl
  exact ⟨fd, spM (GG T) m_law, fun s v => b s [v] rfl, fun H a ns hl hS => sp_law (G := (GG T)) hS (law_true ns hl), fun base _ _ => fn_law T fd F⟩
end My
open PySem PySem.W PySem.Calls PyProof.Rows
set_option maxRecDepth 100000 in
set_option maxHeartbeats 0 in
theorem PySem.Challenge.cw_twodivisions_k53_great_numbers_written_o_holds : PySem.Challenge.rw_twodivisions_k53_great_numbers_written_o.Holds := by
  w_on; o_law
  refine HandSHeadRun.head_any (r := OpenLaw.row PySem.Challenge.rw_twodivisions_k53_great_numbers_written_o) (q := view (OpenLaw.row PySem.Challenge.rw_twodivisions_k53_great_numbers_written_o).prog [38]) (H := My.hk) (ob := My.ob) (M := 20000) (loose := My.looseA) (d := HandSHeadRun.topDef (OpenLaw.row PySem.Challenge.rw_twodivisions_k53_great_numbers_written_o).prog 38) (kwd := []) My.ob_eq
    (by kernel_rfl) (fun s => by kernel_rfl) My.headRun (by kernel_rfl) (by kernel_rfl) (by kernel_rfl) (by rfl) (by first | assumption | decide +kernel) (by decide +kernel) ⟨rfl, rfl, rfl, rfl, rfl, by decide +kernel⟩ ?hw ?hc
  case hw => w_witness2
  case hc =>
    refine My.walk_ofM (l := PySem.Challenge.rw_twodivisions_k53_great_numbers_written_o) (n := 63) (k := 11) (x := "_law_script") rfl (by decide) (by kernel_rfl) ⟨rfl, by decide, by decide⟩ ?F
    intro w mg fa h Y G hmg0
    obtain ⟨K, KX, c⟩ := Y
    have hmg : mg ("law" : PySem.Str) = some (.ref fa) := by
      have e : (HandSHeadRun.topDef (OpenLaw.row PySem.Challenge.rw_twodivisions_k53_great_numbers_written_o).prog 38).name = ("law" : PySem.Str) := by kernel_rfl
      rw [← e]
      exact hmg0
    obtain ⟨fd, sp, hb, hsp, hF⟩ := My.facts (P := (PySem.Challenge.rw_twodivisions_k53_great_numbers_written_o).prog) (w := w) KX G hmg c
    exact ⟨K, fd, sp, KX, hb, fun H a ns hl _ hS => hsp H a ns hl hS, hF⟩
