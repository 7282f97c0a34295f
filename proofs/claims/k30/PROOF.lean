import PyProof.Rows.All
import Wide.All
import OpenK.AllK
import Wide.FinOn
import HandS.ForMost
import HandS.ForExc
import HandS.Wide
import HandS.WideBits
import HandS.EndBits
import HandS.IsInst
import HandS.Walk
import HandS.ExcInit
import HandS.ExcField
import HandS.ExcIs
import HandS.Style
import HandS.Property
import HandS.Defaults
import HandS.Star
import HandS.TupAny
import HandS.CallSlots
import HandS.NoneIn
import KE.KStateDown
import HandS.Head0
import HandS.Head1
import HandS.Head2
import HandS.HeadEnd
import HandS.HeadHook1
import HandS.HeadHook2
import KE.KExcInit
import KE.KOpsOwn
import HandS.ClsMeth
import HandS.TupMul
import HandS.Zip
import HandS.WideMore
import HandS.Flow
import KE.GoesMore
import KE.GoesEnum
import HandS.HotCalls
import KE.KDictKeyed
import KE.KeyNested
import HandS.DictComp
import HandS.DictTup
import HandS.DeepEq

import PySem.Challenge.RW_twodivisions_k30_error_classes
set_option Elab.async false
set_option maxRecDepth 100000
set_option maxHeartbeats 4000000
set_option linter.all false
namespace My
open PySem L2
/-! the mirror layer: what a def does, as a plain function over frozen data and a small store of things that change -/
inductive D where
  | non | bl (b : Bool) | int (i : Int) | str (x : Str)
  | lst (xs : List D) | tup (xs : List D) | obj (c : String) (fs : List (String × D))
  | dct (kvs : List (D × D)) | dcn (kvs : List (D × D)) | cls (c : String) | ty (n : String) | lck (ns : List Int)
  /-- an error of an own class, as a value -/
  | exc (c : String) (fs : List (String × D))
  /-- x, the very object at a -/
  | idn (x : D) (a : Addr)
inductive Va where
  | d (x : D) | ref (n : Nat)
inductive MO where
  | lst (xs : List Va) | obj (c : String) (fs : List (String × Va)) | dct (kvs : List (D × Va)) | dcn (kvs : List (D × Va))
abbrev Sto := List MO
abbrev Ev := List (Option Va)
inductive Res (α : Type) where
  | ok (a : α) (st : Sto) | er (c : String) (fs : List (String × Va)) (st : Sto) | bad
inductive Out where
  | nx (ρ : Ev) (st : Sto) | rt (v : Va) (st : Sto) | bk (ρ : Ev) (st : Sto) | ct (ρ : Ev) (st : Sto) | er (c : String) (fs : List (String × Va)) (ρ : Ev) (st : Sto) | bad
abbrev ME := Ev → Sto → Res Va
abbrev MT := Ev → Sto → Res Bool
abbrev MA := Ev → Sto → Res (List Va)
abbrev MS := Ev → Sto → Out
abbrev MF := List Va → Sto → Res Va
abbrev I' (i : Int) : Va := .d (.int i)
abbrev B' (b : Bool) : Va := .d (.bl b)
def Res.bind {α β : Type} : Res α → (α → Sto → Res β) → Res β
  | .ok a st, k => k a st
  | .er c fs st, _ => .er c fs st
  | .bad, _ => .bad
structure Ext (H F : Hp) (ad : List Addr) (H' F' : Hp) (ad' : List Addr) : Prop where
  pre : ∃ zs, ad' = ad ++ zs
  fz : Same F F'
  kp : ∀ b o, b ∉ ad → H b = some o → H' b = some o
  dm : ∀ b, H' b = none → H b = none
  nw : ∀ b o, F' b = some o → F b = some o ∨ H b = none
  na : ∀ b ∈ ad', b ∈ ad ∨ H b = none
theorem Ext.refl {H F : Hp} {ad : List Addr} : Ext H F ad H F ad := ⟨⟨[], (List.append_nil _).symm⟩, Same.refl _, fun _ _ _ h => h, fun _ h => h, fun _ _ h => .inl h, fun _ h => .inl h⟩
theorem Ext.trans {H F H1 F1 H2 F2 : Hp} {ad ad1 ad2 : List Addr} (a : Ext H F ad H1 F1 ad1) (b : Ext H1 F1 ad1 H2 F2 ad2) : Ext H F ad H2 F2 ad2 := by
  obtain ⟨zs, ez⟩ := a.pre
  obtain ⟨ys, ey⟩ := b.pre
  refine ⟨⟨zs ++ ys, by rw [ey, ez, List.append_assoc]⟩, a.fz.trans b.fz, fun c o n h => ?_, fun c h => a.dm c (b.dm c h), fun c o h => ?_, fun c h => ?_⟩
  · refine b.kp c o (fun z => ?_) (a.kp c o n h)
    rcases a.na c z with z | z
    · exact n z
    · rw [h] at z; cases z
  · rcases b.nw c o h with h | h
    · exact a.nw c o h
    · exact .inr (a.dm c h)
  · rcases b.na c h with h | h
    · exact a.na c h
    · exact .inr (a.dm c h)
/-- an own class -/
structure ClsOk (K : PySem.W.Frag) (C : Addr) : Prop where
  cl : Cls K C
  tc : PySem.W.findIn K (.ref C) "__class__" = some (some (.builtin "object.__class__"))
  tg : PySem.W.specialIn K (.builtin "object.__class__") "__get__" = some (some (.builtin "getset_descriptor.__get__"))
  tk : PySem.W.takesIn K (.builtin "object.__class__") = some true
  tm : PySem.W.mroIn K C (.type "object") = some true
  o : ∀ T ∈ ["int", "bool", "str", "list", "tuple", "dict"], PySem.W.kitOne K (.ref C) (.type T) = some false
  i : ∀ T ∈ ["int", "bool", "str", "list", "tuple", "dict", "NoneType"], PySem.W.kitOne K (.type T) (.ref C) = some false
/-- what is static -/
structure Ga where
  K : PySem.W.Frag
  ca : String → Addr
  cs : List String
  cok : ∀ c ∈ cs, ClsOk K (ca c)
  kit : ∀ c ∈ cs, ∀ e ∈ cs, PySem.W.kitOne K (.ref (ca c)) (.ref (ca e)) = some (decide (c = e))
  /-- what is known besides (in an except suite: the error) -/
  jv : Hp → List Addr → L2.St → Prop
  jm : ∀ {H F H' F' : Hp} {ad ad' : List Addr} {σ : L2.St}, Ext H F ad H' F' ad' → jv F ad σ → jv F' ad' σ
  /-- own exceptions -/
  xs : List String
  xm : ∀ c ∈ xs, ∀ e ∈ xs, PySem.W.exmOne K (.ref (ca c)) (.ref (ca e)) = some (decide (c = e))
  w : World
/-- a key of a dict that is an int or a text -/
def kD : Key → D
  | .inl i => .int i
  | .inr x => .str x
mutual
/-- a tuple as the key of a dict -/
def nkD : D → Option NestedKey
  | .non => some .none
  | .bl b => some (.num (if b = true then 1 else 0))
  | .int i => some (.num i)
  | .str x => some (.text x)
  | .tup xs => (nkDs xs).map .tup
  | _ => none
def nkDs : List D → Option (List NestedKey)
  | [] => some []
  | x :: xs => match nkD x, nkDs xs with
    | some k, some ks => some (k :: ks)
    | _, _ => none
end
/-- a dict whose keys are tuples: each key as it is compared, its tuple's place, the value -/
def dN (w : World) (a : Addr) (es : List (NestedKey × Addr × V)) : HO := .ext fun h => es.length ≤ sizeLine ∧ (a == sysModules) = false ∧ ∃ xs : List (NestedKey × Addr × Value),
  Paired (fun (p : NestedKey × Addr × V) (q : NestedKey × Addr × Value) => p.1 = q.1 ∧ p.2.1 = q.2.1 ∧ RelV p.2.2 q.2.2) es xs ∧
  ∃ o ds ep, h.get? a = some o ∧ o.ExactDict ∧ o.data = .dict ds ep ∧ ds.toList = xs.map (fun x => (⟨x.1.hash w, .ref x.2.1, x.2.2⟩ : DictEntry)) ∧ (xs.map (·.1)).Nodup
def Ga.Stb (G : Ga) : Prop := ∀ (F : Hp) (ad : List Addr) (σ : L2.St) (i : Nat) (v : Option V), G.jv F ad σ → G.jv F ad (σ.set i v)
theorem ofS_inj {a b : String} (h : Str.ofString a = Str.ofString b) : a = b := by
  rw [Str.ofString_eq_toList, Str.ofString_eq_toList] at h
  injection h with h
  have h := Array.toList_inj.mpr h
  apply String.toList_inj.mp
  revert h
  generalize a.toList = x
  generalize b.toList = y
  intro h
  induction x generalizing y with
  | nil =>
    cases y with
    | nil => rfl
    | cons d y => simp at h
  | cons c x ih =>
    cases y with
    | nil => simp at h
    | cons d y =>
      simp only [List.map_cons, List.cons.injEq] at h
      rw [ih y h.2]
      have : c = d := by
        apply Char.ext
        apply UInt32.toNat_inj.mp
        exact h.1
      rw [this]
mutual
inductive Rep (G : Ga) (F : Hp) : V → D → Prop
  | non : Rep G F .non .non
  | bl (b : Bool) : Rep G F (.bl b) (.bl b)
  | int (i : Int) : Rep G F (.int i) (.int i)
  | str (x : Str) : Rep G F (.str x) (.str x)
  | lst {a : Addr} {vs : List V} {ds : List D} (h : F a = some (.lst vs)) (t : Reps G F vs ds) : Rep G F (.ref a) (.lst ds)
  | tup {a : Addr} {vs : List V} {ds : List D} (h : SqT G.K F a vs) (t : Reps G F vs ds) : Rep G F (.ref a) (.tup ds)
  | obj {a dx : Addr} {vfs : List (Str × V)} {c : String} {fs : List (String × D)} (hc : c ∈ G.cs) (h : F a = some (.ins (G.ca c) dx vfs)) (t : Repf G F vfs fs) : Rep G F (.ref a) (.obj c fs)
  | cls (c : String) (hc : c ∈ G.cs) : Rep G F (.ref (G.ca c)) (.cls c)
  | ty (n : String) : Rep G F (.ty n) (.ty n)
  | lck {a : Addr} {ns : List Int} (h : SqL G.K F a (ns.map V.int)) : Rep G F (.ref a) (.lck ns)
  | idn {a : Addr} {x : D} (h : Rep G F (.ref a) x) : Rep G F (.ref a) (.idn x a)
  | dct {a : Addr} {kvs : List (Key × V)} {ds : List (D × D)} (h : F a = some (.dK kvs)) (t : Repk G F kvs ds) : Rep G F (.ref a) (.dct ds)
  | dcn {a : Addr} {es : List (NestedKey × Addr × V)} {ds : List (D × D)} (h : F a = some (dN G.w a es)) (t : Repn G F es ds) : Rep G F (.ref a) (.dcn ds)
  | exc {a dx : Addr} {vfs : List (Str × V)} {c : String} {fs : List (String × D)} (h : F a = some (exo a (G.ca c) (some dx))) (hd : F dx = some (exd dx vfs)) (t : Repf G F vfs fs) : Rep G F (.ref a) (.exc c fs)
  | exc0 {a : Addr} {c : String} (h : F a = some (exo a (G.ca c) none)) : Rep G F (.ref a) (.exc c [])
inductive Reps (G : Ga) (F : Hp) : List V → List D → Prop
  | nil : Reps G F [] []
  | cons {v : V} {d : D} {vs : List V} {ds : List D} (h : Rep G F v d) (t : Reps G F vs ds) : Reps G F (v :: vs) (d :: ds)
inductive Repf (G : Ga) (F : Hp) : List (Str × V) → List (String × D) → Prop
  | nil : Repf G F [] []
  | cons {f : String} {v : V} {d : D} {vs : List (Str × V)} {ds : List (String × D)} (h : Rep G F v d) (t : Repf G F vs ds) : Repf G F ((Str.ofString f, v) :: vs) ((f, d) :: ds)
inductive Repk (G : Ga) (F : Hp) : List (Key × V) → List (D × D) → Prop
  | nil : Repk G F [] []
  | cons {k : Key} {v : V} {d : D} {vs : List (Key × V)} {ds : List (D × D)} (h : Rep G F v d) (t : Repk G F vs ds) : Repk G F ((k, v) :: vs) ((kD k, d) :: ds)
inductive Repn (G : Ga) (F : Hp) : List (NestedKey × Addr × V) → List (D × D) → Prop
  | nil : Repn G F [] []
  | cons {k : NestedKey} {b : Addr} {v : V} {x d : D} {vs : List (NestedKey × Addr × V)} {ds : List (D × D)} (hx : Rep G F (.ref b) x) (hk : nkD x = some k) (h : Rep G F v d) (t : Repn G F vs ds) : Repn G F ((k, b, v) :: vs) ((x, d) :: ds)
end
theorem sqT_same {K : PySem.W.Frag} {H H' : Hp} {a : Addr} {xs : List V} (e : Same H H') (h : SqT K H a xs) : SqT K H' a xs := by
  rcases h with (h | ⟨o, h⟩) | h
  · exact .inl (.inl (e _ _ h))
  · exact .inl (.inr ⟨o, e _ _ h⟩)
  · exact .inr h
mutual
theorem Rep.same {G : Ga} {F F' : Hp} (e : Same F F') : ∀ {v : V} {d : D}, Rep G F v d → Rep G F' v d
  | _, _, .non => .non
  | _, _, .bl b => .bl b
  | _, _, .int i => .int i
  | _, _, .str x => .str x
  | _, _, .lst h t => .lst (e _ _ h) (Reps.same e t)
  | _, _, .tup h t => .tup (sqT_same e h) (Reps.same e t)
  | _, _, .obj hc h t => .obj hc (e _ _ h) (Repf.same e t)
  | _, _, .cls c hc => .cls c hc
  | _, _, .ty n => .ty n
  | _, _, .lck h => .lck (e.seq h)
  | _, _, .idn h => .idn (Rep.same e h)
  | _, _, .dct h t => .dct (e _ _ h) (Repk.same e t)
  | _, _, .dcn h t => .dcn (e _ _ h) (Repn.same e t)
  | _, _, .exc h hd t => .exc (e _ _ h) (e _ _ hd) (Repf.same e t)
  | _, _, .exc0 h => .exc0 (e _ _ h)
theorem Reps.same {G : Ga} {F F' : Hp} (e : Same F F') : ∀ {v : List V} {d : List D}, Reps G F v d → Reps G F' v d
  | _, _, .nil => .nil
  | _, _, .cons h t => .cons (Rep.same e h) (Reps.same e t)
theorem Repf.same {G : Ga} {F F' : Hp} (e : Same F F') : ∀ {v : List (Str × V)} {d : List (String × D)}, Repf G F v d → Repf G F' v d
  | _, _, .nil => .nil
  | _, _, .cons h t => .cons (Rep.same e h) (Repf.same e t)
theorem Repk.same {G : Ga} {F F' : Hp} (e : Same F F') : ∀ {v : List (Key × V)} {d : List (D × D)}, Repk G F v d → Repk G F' v d
  | _, _, .nil => .nil
  | _, _, .cons h t => .cons (Rep.same e h) (Repk.same e t)
theorem Repn.same {G : Ga} {F F' : Hp} (e : Same F F') : ∀ {v : List (NestedKey × Addr × V)} {d : List (D × D)}, Repn G F v d → Repn G F' v d
  | _, _, .nil => .nil
  | _, _, .cons hx hk h t => .cons (Rep.same e hx) hk (Rep.same e h) (Repn.same e t)
end
def RepV (G : Ga) (F : Hp) (ad : List Addr) (v : V) : Va → Prop
  | .d x => Rep G F v x
  | .ref n => ∃ a, ad[n]? = some a ∧ v = .ref a
abbrev RepVs (G : Ga) (F : Hp) (ad : List Addr) : List V → List Va → Prop := Paired (RepV G F ad)
abbrev RepKs (G : Ga) (F : Hp) (ad : List Addr) : List (Key × V) → List (D × Va) → Prop := Paired fun p q => kD p.1 = q.1 ∧ RepV G F ad p.2 q.2
abbrev RepNs (G : Ga) (F : Hp) (ad : List Addr) : List (NestedKey × Addr × V) → List (D × Va) → Prop := Paired fun p q => Rep G F (.ref p.2.1) q.1 ∧ nkD q.1 = some p.1 ∧ RepV G F ad p.2.2 q.2
abbrev RepFs (G : Ga) (F : Hp) (ad : List Addr) : List (Str × V) → List (String × Va) → Prop := Paired fun p q => p.1 = Str.ofString q.1 ∧ RepV G F ad p.2 q.2
theorem Reps.va {G : Ga} {F : Hp} {ad : List Addr} : ∀ {vs : List V} {ds : List D}, Reps G F vs ds → RepVs G F ad vs (ds.map Va.d)
  | _, _, .nil => .nil
  | _, _, .cons h t => .cons h (Reps.va t)
theorem Reps.of {G : Ga} {F : Hp} {ad : List Addr} : ∀ {vs : List V} {ds : List D}, RepVs G F ad vs (ds.map Va.d) → Reps G F vs ds
  | [], [], _ => .nil
  | _ :: _, [], h => by cases h
  | [], _ :: _, h => by cases h
  | _ :: _, _ :: _, .cons h t => .cons h (Reps.of t)
theorem Repf.va {G : Ga} {F : Hp} {ad : List Addr} : ∀ {vs : List (Str × V)} {ds : List (String × D)}, Repf G F vs ds → RepFs G F ad vs (ds.map fun p => (p.1, Va.d p.2))
  | _, _, .nil => .nil
  | _, _, .cons h t => .cons ⟨rfl, h⟩ (Repf.va t)
theorem Repf.of {G : Ga} {F : Hp} {ad : List Addr} : ∀ {vs : List (Str × V)} {ds : List (String × D)}, RepFs G F ad vs (ds.map fun p => (p.1, Va.d p.2)) → Repf G F vs ds
  | [], [], _ => .nil
  | _ :: _, [], h => by cases h
  | [], _ :: _, h => by cases h
  | (_, _) :: _, (_, _) :: _, .cons ⟨e, h⟩ t => by
    cases e
    exact .cons h (Repf.of t)
theorem Reps.length {G : Ga} {F : Hp} : ∀ {vs : List V} {ds : List D}, Reps G F vs ds → vs.length = ds.length
  | _, _, .nil => rfl
  | _, _, .cons _ t => congrArg Nat.succ (Reps.length t)
theorem Reps.get {G : Ga} {F : Hp} : ∀ {vs : List V} {ds : List D} {i : Nat} {d : D}, Reps G F vs ds → ds[i]? = some d → ∃ v, vs[i]? = some v ∧ Rep G F v d
  | _, _, _, _, .nil, e => by simp at e
  | _, _, 0, _, .cons h _, e => by simp at e; subst e; exact ⟨_, rfl, h⟩
  | _, _, i + 1, d, .cons _ t, e => by
    obtain ⟨v, h1, h2⟩ := Reps.get (i := i) (d := d) t (by simpa using e)
    exact ⟨v, by simpa using h1, h2⟩
/-- what stands at a cell -/
def ObjR (G : Ga) (F : Hp) (ad : List Addr) (H : Hp) (a : Addr) : MO → Prop
  | .lst ds => ∃ vs, H a = some (.lst vs) ∧ RepVs G F ad vs ds
  | .obj c fs => c ∈ G.cs ∧ ∃ dx vfs, H a = some (.ins (G.ca c) dx vfs) ∧ RepFs G F ad vfs fs
  | .dct kvs => ∃ vs, H a = some (.dK vs) ∧ RepKs G F ad vs kvs
  | .dcn kvs => ∃ es, H a = some (dN G.w a es) ∧ RepNs G F ad es kvs
theorem ObjR.there {G : Ga} {F : Hp} {ad : List Addr} {H : Hp} {a : Addr} {o : MO} (h : ObjR G F ad H a o) : ∃ u, H a = some u := by
  cases o with
  | lst ds => obtain ⟨vs, e, _⟩ := h; exact ⟨_, e⟩
  | obj c fs => obtain ⟨_, dx, vfs, e, _⟩ := h; exact ⟨_, e⟩
  | dct kvs => obtain ⟨vs, e, _⟩ := h; exact ⟨_, e⟩
  | dcn kvs => obtain ⟨vs, e, _⟩ := h; exact ⟨_, e⟩
theorem nodup_get {α : Type} : ∀ {l : List α} {k n : Nat} {a : α}, l.Nodup → l[k]? = some a → l[n]? = some a → k = n
  | [], _, _, _, _, h, _ => by simp at h
  | _ :: _, 0, 0, _, _, _, _ => rfl
  | x :: l, 0, n + 1, a, hd, h, h2 => by
    simp at h h2
    subst h
    exact absurd (List.mem_of_getElem? h2) (List.nodup_cons.mp hd).1
  | x :: l, k + 1, 0, a, hd, h, h2 => by
    simp at h h2
    subst h2
    exact absurd (List.mem_of_getElem? h) (List.nodup_cons.mp hd).1
  | x :: l, k + 1, n + 1, a, hd, h, h2 => by
    simp at h h2
    rw [nodup_get (List.nodup_cons.mp hd).2 h h2]
structure SR (G : Ga) (H F : Hp) (ad : List Addr) (st : Sto) : Prop where
  sub : Same F H
  len : ad.length = st.length
  nd : ad.Nodup
  dis : ∀ a ∈ ad, F a = none
  ob : ∀ (n : Nat) a o, ad[n]? = some a → st[n]? = some o → ObjR G F ad H a o
section
variable {G : Ga} {H F H' F' : Hp} {ad ad' : List Addr} {st : Sto}
theorem Ext.at_ (e : Ext H F ad H' F' ad') {n : Nat} {a : Addr} (h : ad[n]? = some a) : ad'[n]? = some a := by
  obtain ⟨zs, ez⟩ := e.pre
  rw [ez, List.getElem?_append_left (List.getElem?_eq_some_iff.mp h).1]
  exact h
theorem RepV.ext (e : Ext H F ad H' F' ad') {v : V} {d : Va} (h : RepV G F ad v d) : RepV G F' ad' v d := by
  cases d with
  | d x => exact Rep.same e.fz h
  | ref n =>
    obtain ⟨a, h1, h2⟩ := h
    exact ⟨a, e.at_ h1, h2⟩
theorem RepVs.ext (e : Ext H F ad H' F' ad') {vs : List V} {ds : List Va} (h : RepVs G F ad vs ds) : RepVs G F' ad' vs ds := Paired.mono (fun _ _ z => z.ext e) h
theorem RepFs.ext (e : Ext H F ad H' F' ad') {vs : List (Str × V)} {ds : List (String × Va)} (h : RepFs G F ad vs ds) : RepFs G F' ad' vs ds := Paired.mono (fun _ _ z => ⟨z.1, z.2.ext e⟩) h
theorem RepKs.ext (e : Ext H F ad H' F' ad') {vs : List (Key × V)} {ds : List (D × Va)} (h : RepKs G F ad vs ds) : RepKs G F' ad' vs ds := Paired.mono (fun _ _ z => ⟨z.1, z.2.ext e⟩) h
theorem RepNs.ext (e : Ext H F ad H' F' ad') {vs : List (NestedKey × Addr × V)} {ds : List (D × Va)} (h : RepNs G F ad vs ds) : RepNs G F' ad' vs ds := Paired.mono (fun _ _ z => ⟨Rep.same e.fz z.1, z.2.1, z.2.2.ext e⟩) h
theorem SR.there (S : SR G H F ad st) {a : Addr} (h : a ∈ ad) : ∃ u, H a = some u := by
  obtain ⟨n, e⟩ := List.mem_iff_getElem?.mp h
  have hn : n < st.length := by
    have := (List.getElem?_eq_some_iff.mp e).1
    rw [S.len] at this
    exact this
  exact (S.ob n a _ e (List.getElem?_eq_getElem hn)).there
theorem SR.get (S : SR G H F ad st) {n : Nat} {a : Addr} {o : MO} (h : ad[n]? = some a) (ho : st[n]? = some o) : ObjR G F ad H a o := S.ob n a o h ho
/-- a new frozen thing -/
theorem ext_new (S : SR G H F ad st) {p : Addr} {o : HO} (hp : H p = none) : Ext H F ad (upd H p o) (upd F p o) ad := by
  have fp : F p = none := S.sub.free hp
  refine ⟨⟨[], (List.append_nil _).symm⟩, fun b u h => ?_, fun b u _ h => ?_, fun b h => ?_, fun b u h => ?_, fun _ h => .inl h⟩
  · rw [upd_ne (ne_of_none h fp)]; exact h
  · rw [upd_ne (ne_of_none h hp)]; exact h
  · by_cases e : b = p
    · rw [e]; exact hp
    · rw [upd_ne e] at h; exact h
  · by_cases e : b = p
    · rw [e]; exact .inr hp
    · rw [upd_ne e] at h; exact .inl h
theorem ObjR.mono {a : Addr} {o : MO} (e : Ext H F ad H' F' ad') (eq : H' a = H a) (h : ObjR G F ad H a o) : ObjR G F' ad' H' a o := by
  cases o with
  | lst ds => obtain ⟨vs, z, r⟩ := h; exact ⟨vs, by rw [eq]; exact z, RepVs.ext e r⟩
  | obj c fs => obtain ⟨hc, dx, vfs, z, r⟩ := h; exact ⟨hc, dx, vfs, by rw [eq]; exact z, RepFs.ext e r⟩
  | dct kvs => obtain ⟨vs, z, r⟩ := h; exact ⟨vs, by rw [eq]; exact z, RepKs.ext e r⟩
  | dcn kvs => obtain ⟨vs, z, r⟩ := h; exact ⟨vs, by rw [eq]; exact z, RepNs.ext e r⟩
theorem SR.new (S : SR G H F ad st) {p : Addr} {o : HO} (hp : H p = none) : SR G (upd H p o) (upd F p o) ad st := by
  have E := ext_new S (o := o) hp
  have ne : ∀ a ∈ ad, a ≠ p := fun a h e => by
    obtain ⟨u, hu⟩ := S.there h
    rw [e, hp] at hu
    cases hu
  refine ⟨fun b u h => ?_, S.len, S.nd, fun a h => ?_, fun n a m h hm => ?_⟩
  · by_cases e : b = p
    · rw [e, upd_same] at h
      rw [e, upd_same]
      exact h
    · rw [upd_ne e] at h
      rw [upd_ne e]
      exact S.sub b u h
  · rw [upd_ne (ne a h)]
    exact S.dis a h
  · exact (S.ob n a m h hm).mono E (upd_ne (ne a (List.mem_of_getElem? h)))
/-- a new cell -/
theorem ext_cell (S : SR G H F ad st) {p : Addr} {o : HO} (hp : H p = none) : Ext H F ad (upd H p o) F (ad ++ [p]) := by
  refine ⟨⟨[p], rfl⟩, Same.refl _, fun b u _ h => ?_, fun b h => ?_, fun b u h => .inl h, fun b h => ?_⟩
  · rw [upd_ne (ne_of_none h hp)]; exact h
  · by_cases e : b = p
    · rw [e]; exact hp
    · rw [upd_ne e] at h; exact h
  · rcases List.mem_append.mp h with h | h
    · exact .inl h
    · have : b = p := by simpa using h
      rw [this]
      exact .inr hp
theorem SR.cell (S : SR G H F ad st) {p : Addr} {o : HO} {m : MO} (hp : H p = none) (hm : ObjR G F (ad ++ [p]) (upd H p o) p m) : SR G (upd H p o) F (ad ++ [p]) (st ++ [m]) := by
  have E := ext_cell S (o := o) hp
  have ne : ∀ a ∈ ad, a ≠ p := fun a h e => by
    obtain ⟨u, hu⟩ := S.there h
    rw [e, hp] at hu
    cases hu
  have fp : F p = none := S.sub.free hp
  refine ⟨fun b u h => ?_, by rw [List.length_append, List.length_append, S.len]; rfl, ?_, fun a h => ?_, fun n a u h hu => ?_⟩
  · rw [upd_ne (ne_of_none h fp)]
    exact S.sub b u h
  · rw [List.nodup_append]
    refine ⟨S.nd, by simp, fun a ha b hb => ?_⟩
    have : b = p := by simpa using hb
    rw [this]
    exact ne a ha
  · rcases List.mem_append.mp h with h | h
    · exact S.dis a h
    · have : a = p := by simpa using h
      rw [this]; exact fp
  · by_cases hn : n < ad.length
    · rw [List.getElem?_append_left hn] at h
      rw [List.getElem?_append_left (by rw [← S.len]; exact hn)] at hu
      exact (S.ob n a u h hu).mono E (upd_ne (ne a (List.mem_of_getElem? h)))
    · have hl : n < (ad ++ [p]).length := (List.getElem?_eq_some_iff.mp h).1
      have e : n = ad.length := by
        rw [List.length_append] at hl
        simp at hl
        omega
      subst e
      rw [List.getElem?_append_right (Nat.le_refl _), Nat.sub_self] at h
      rw [S.len, List.getElem?_append_right (Nat.le_refl _), Nat.sub_self] at hu
      have e1 : p = a := by simpa using h
      have e2 : m = u := by simpa using hu
      rw [← e1, ← e2]
      exact hm
/-- a cell is changed -/
theorem ext_mut {n : Nat} {a : Addr} {o : HO} (S : SR G H F ad st) (h : ad[n]? = some a) : Ext H F ad (upd H a o) F ad := by
  refine ⟨⟨[], (List.append_nil _).symm⟩, Same.refl _, fun b u hb h1 => ?_, fun b hb => ?_, fun b u h => .inl h, fun b h => .inl h⟩
  · rw [upd_ne (fun e => hb (by rw [e]; exact List.mem_of_getElem? h))]
    exact h1
  · by_cases e : b = a
    · rw [e, upd_same] at hb; cases hb
    · rw [upd_ne e] at hb; exact hb
theorem SR.mut {n : Nat} {a : Addr} {o : HO} {m : MO} (S : SR G H F ad st) (h : ad[n]? = some a) (hm : ObjR G F ad (upd H a o) a m) : SR G (upd H a o) F ad (st.set n m) := by
  have E := ext_mut (o := o) S h
  refine ⟨fun b u hb => ?_, by rw [List.length_set, S.len], S.nd, S.dis, fun k b u hb hu => ?_⟩
  · have ne : b ≠ a := fun e => by
      have := S.dis a (List.mem_of_getElem? h)
      rw [e, this] at hb
      cases hb
    rw [upd_ne ne]
    exact S.sub b u hb
  · by_cases hk : k = n
    · subst hk
      have e1 : a = b := by rw [h] at hb; exact Option.some.inj hb
      have hlt : k < st.length := by rw [← S.len]; exact (List.getElem?_eq_some_iff.mp h).1
      rw [List.getElem?_set_self hlt] at hu
      have e2 : m = u := Option.some.inj hu
      rw [← e1, ← e2]
      exact hm
    · rw [List.getElem?_set_ne (fun e => hk e.symm)] at hu
      have ne : b ≠ a := fun e => by
        rw [e] at hb
        exact hk (nodup_get S.nd hb h)
      exact (S.ob k b u hb hu).mono E (upd_ne ne)
end
/-! slots -/
structure RelE (G : Ga) (F : Hp) (ad : List Addr) (σ : L2.St) (ρ : Ev) : Prop where
  len : σ.length = ρ.length
  at_ : ∀ (i : Nat) d, ρ[i]? = some (some d) → ∃ v, σ[i]? = some (some v) ∧ RepV G F ad v d
  j : G.jv F ad σ
section
variable {G : Ga} {H F H' F' : Hp} {ad ad' : List Addr} {st : Sto} {σ : L2.St} {ρ : Ev}
theorem RelE.ext (e : Ext H F ad H' F' ad') (h : RelE G F ad σ ρ) : RelE G F' ad' σ ρ := ⟨h.len, fun i d z => by
  obtain ⟨v, h1, h2⟩ := h.at_ i d z
  exact ⟨v, h1, h2.ext e⟩, G.jm e h.j⟩
theorem RelE.set {i : Nat} {v : V} {d : Va} (hs : G.Stb) (h : RelE G F ad σ ρ) (r : RepV G F ad v d) : RelE G F ad (σ.set i (some v)) (ρ.set i (some d)) := by
  refine ⟨by rw [List.length_set, List.length_set, h.len], fun j u e => ?_, hs _ _ _ _ _ h.j⟩
  by_cases hj : i = j
  · subst hj
    have hl : i < ρ.length := by
      have := (List.getElem?_eq_some_iff.mp e).1
      rw [List.length_set] at this
      exact this
    rw [List.getElem?_set_self hl] at e
    have : d = u := by simpa using e
    rw [← this]
    exact ⟨v, List.getElem?_set_self (by rw [h.len]; exact hl), r⟩
  · rw [List.getElem?_set_ne hj] at e
    obtain ⟨v', h1, h2⟩ := h.at_ j u e
    exact ⟨v', by rw [List.getElem?_set_ne hj]; exact h1, h2⟩
end
/-! what is wanted behind -/
def ErrR (G : Ga) (F : Hp) (ad : List Addr) (c : String) (fs : List (String × Va)) (cls : Value) (d : Option Addr) : Prop :=
  c ∈ G.xs ∧ cls = .ref (G.ca c) ∧ ((fs = [] ∧ d = none) ∨ ∃ dx vfs, d = some dx ∧ F dx = some (.xd vfs) ∧ RepFs G F ad vfs fs)
def Po {α : Type} (G : Ga) (W : Value → Option Addr → Hp → Prop) (H F : Hp) (ad : List Addr) (P : α → Sto → Hp → Hp → List Addr → Prop) : Res α → Prop
  | .ok a st => ∀ H' F' ad', Ext H F ad H' F' ad' → SR G H' F' ad' st → P a st H' F' ad'
  | .er c fs st => ∀ H' F' ad' cls d, Ext H F ad H' F' ad' → SR G H' F' ad' st → ErrR G F' ad' c fs cls d → W cls d H'
  | .bad => False
theorem Po.from {α : Type} {G : Ga} {W : Value → Option Addr → Hp → Prop} {H F H1 F1 : Hp} {ad ad1 : List Addr} {P : α → Sto → Hp → Hp → List Addr → Prop} {r : Res α} (e : Ext H F ad H1 F1 ad1) (h : Po G W H F ad P r) : Po G W H1 F1 ad1 P r := by
  cases r with
  | ok a st => exact fun H' F' ad' e' S => h H' F' ad' (e.trans e') S
  | er c fs st => exact fun H' F' ad' cls d e' S z => h H' F' ad' cls d (e.trans e') S z
  | bad => exact h
theorem Po.bind {α β : Type} {G : Ga} {W : Value → Option Addr → Hp → Prop} {H F : Hp} {ad : List Addr} {P : β → Sto → Hp → Hp → List Addr → Prop} {r : Res α} {k : α → Sto → Res β} (h : Po G W H F ad P (r.bind k)) :
    Po G W H F ad (fun a st H' F' ad' => Po G W H' F' ad' P (k a st)) r := by
  cases r with
  | ok a st => exact fun H' F' ad' e _ => Po.from e h
  | er c fs st => exact h
  | bad => exact h
def PoS (G : Ga) (W : L2.WX) (H F : Hp) (ad : List Addr) (D : Ends) : Out → Prop
  | .nx ρ st => ∀ H' F' ad' σ', Ext H F ad H' F' ad' → SR G H' F' ad' st → RelE G F' ad' σ' ρ → D.nx σ' H'
  | .rt d st => ∀ H' F' ad' v, Ext H F ad H' F' ad' → SR G H' F' ad' st → RepV G F' ad' v d → D.rt v H'
  | .bk ρ st => ∀ H' F' ad' σ', Ext H F ad H' F' ad' → SR G H' F' ad' st → RelE G F' ad' σ' ρ → D.bk σ' H'
  | .ct ρ st => ∀ H' F' ad' σ', Ext H F ad H' F' ad' → SR G H' F' ad' st → RelE G F' ad' σ' ρ → D.ct σ' H'
  | .er c fs ρ st => ∀ H' F' ad' σ' cls d, Ext H F ad H' F' ad' → SR G H' F' ad' st → RelE G F' ad' σ' ρ → ErrR G F' ad' c fs cls d → W cls d σ' H'
  | .bad => False
theorem PoS.from {G : Ga} {W : L2.WX} {H F H1 F1 : Hp} {ad ad1 : List Addr} {D : Ends} {o : Out} (e : Ext H F ad H1 F1 ad1) (h : PoS G W H F ad D o) : PoS G W H1 F1 ad1 D o := by
  cases o with
  | nx ρ st => exact fun H' F' ad' σ' e' => h H' F' ad' σ' (e.trans e')
  | rt d st => exact fun H' F' ad' σ' e' => h H' F' ad' σ' (e.trans e')
  | bk ρ st => exact fun H' F' ad' σ' e' => h H' F' ad' σ' (e.trans e')
  | ct ρ st => exact fun H' F' ad' σ' e' => h H' F' ad' σ' (e.trans e')
  | er c fs ρ st => exact fun H' F' ad' σ' cls d e' => h H' F' ad' σ' cls d (e.trans e')
  | bad => exact h
/-! readings beside mirrors -/
def SimE (G : Ga) (W : L2.WX) (t : TE) (m : ME) : Prop := ∀ (σ : L2.St) (ρ : Ev) (H F : Hp) (ad : List Addr) (st : Sto) (Q : VK), RelE G F ad σ ρ → SR G H F ad st →
  Po G (fun c d H' => W c d σ H') H F ad (fun d _ H' F' ad' => ∀ v, RepV G F' ad' v d → Q v H') (m ρ st) → t σ H Q
def SimT (G : Ga) (W : L2.WX) (t : TT) (m : MT) : Prop := ∀ (σ : L2.St) (ρ : Ev) (H F : Hp) (ad : List Addr) (st : Sto) (Q : Bool → Hp → Prop), RelE G F ad σ ρ → SR G H F ad st →
  Po G (fun c d H' => W c d σ H') H F ad (fun b _ H' _ _ => Q b H') (m ρ st) → t σ H Q
def SimA (G : Ga) (W : L2.WX) (t : TA) (m : MA) : Prop := ∀ (σ : L2.St) (ρ : Ev) (H F : Hp) (ad : List Addr) (st : Sto) (Q : List V → Hp → Prop), RelE G F ad σ ρ → SR G H F ad st →
  Po G (fun c d H' => W c d σ H') H F ad (fun ds _ H' F' ad' => ∀ vs, RepVs G F' ad' vs ds → Q vs H') (m ρ st) → t σ H Q
def SimS (G : Ga) (W : L2.WX) (t : TS) (m : MS) : Prop := ∀ (σ : L2.St) (ρ : Ev) (H F : Hp) (ad : List Addr) (st : Sto) (D : Ends), RelE G F ad σ ρ → SR G H F ad st →
  PoS G W H F ad D (m ρ st) → t D σ H
def DE (G : Ga) (W : L2.WX) (X : Cx) (e : Expr) (m : ME) : Prop := ∃ t, PE X e t ∧ SimE G W t m
def DT (G : Ga) (W : L2.WX) (X : Cx) (e : Expr) (m : MT) : Prop := ∃ t, PT X e t ∧ SimT G W t m
def DA (G : Ga) (W : L2.WX) (X : Cx) (es : List Expr) (m : MA) : Prop := ∃ t, PA X es t ∧ SimA G W t m
def DS (G : Ga) (W : L2.WX) (X : Cx) (s : Stmt) (m : MS) : Prop := ∃ t, PS X s t ∧ SimS G W t m
def DSs (G : Ga) (W : L2.WX) (X : Cx) (s : List Stmt) (m : MS) : Prop := ∃ t, PSs X s t ∧ SimS G W t m

/-! ### expressions -/
section
variable {G : Ga} {W : L2.WX} {X : Cx}
theorem fin_same {α : Type} {Wv : Value → Option Addr → Hp → Prop} {H F : Hp} {ad : List Addr} {st : Sto} {a : α} {P : α → Sto → Hp → Hp → List Addr → Prop} (S : SR G H F ad st) (h : Po G Wv H F ad P (.ok a st)) : P a st H F ad := h _ _ _ Ext.refl S
abbrev QV (G : Ga) (Q : VK) : Va → Sto → Hp → Hp → List Addr → Prop := fun d _ H' F' ad' => ∀ v, RepV G F' ad' v d → Q v H'
theorem fin_new {Wv : Value → Option Addr → Hp → Prop} {H F : Hp} {ad : List Addr} {st : Sto} {x : D} {o : HO} {p : Addr} {Q : VK} (S : SR G H F ad st) (hp : H p = none) (r : Rep G (upd F p o) (.ref p) x) (h : Po G Wv H F ad (QV G Q) (.ok (.d x) st)) : Q (.ref p) (upd H p o) :=
  h _ _ _ (ext_new S hp) (S.new hp) _ r
/-! leaves -/
def strip : Va → Va
  | .d (.idn x _) => .d x
  | v => v
def mVar (i : Nat) : ME := fun ρ st => match ρ[i]? with
  | some (some d) => .ok (strip d) st
  | _ => .bad
/-- with its identity, where it is known -/
def mVarI (i : Nat) : ME := fun ρ st => match ρ[i]? with
  | some (some d) => .ok d st
  | _ => .bad
theorem strip_ok {F : Hp} {ad : List Addr} {v : V} {d : Va} (h : RepV G F ad v d) : RepV G F ad v (strip d) := by
  cases d with
  | ref n => exact h
  | d x => cases h with
    | idn h => exact h
    | non => exact .non
    | bl b => exact .bl b
    | int i => exact .int i
    | str x => exact .str x
    | lst h t => exact .lst h t
    | tup h t => exact .tup h t
    | obj hc h t => exact .obj hc h t
    | cls c hc => exact .cls c hc
    | ty n => exact .ty n
    | lck h => exact .lck h
    | dct h t => exact .dct h t
    | dcn h t => exact .dcn h t
    | exc h hd t => exact .exc h hd t
    | exc0 h => exact .exc0 h
def mC (x : D) : ME := fun _ st => .ok (.d x) st
theorem sim_var {i : Nat} : SimE G W (tVar i) (mVar i) := by
  intro σ ρ H F ad st Q R S h
  unfold mVar at h
  split at h
  · rename_i d e
    obtain ⟨v, h1, h2⟩ := R.at_ i d e
    exact ⟨v, h1, fin_same S h v (strip_ok h2)⟩
  · exact h.elim
theorem sim_varI {i : Nat} : SimE G W (tVar i) (mVarI i) := by
  intro σ ρ H F ad st Q R S h
  unfold mVarI at h
  split at h
  · rename_i d e
    obtain ⟨v, h1, h2⟩ := R.at_ i d e
    exact ⟨v, h1, fin_same S h v h2⟩
  · exact h.elim
theorem de_vI {e : Expr} {i : Nat} (h : PE X e (tVar i)) : DE G W X e (mVarI i) := ⟨_, h, sim_varI⟩
theorem de_v {e : Expr} {i : Nat} (h : PE X e (tVar i)) : DE G W X e (mVar i) := ⟨_, h, sim_var⟩
theorem sim_c {v : V} {x : D} (r : ∀ F, Rep G F v x) : SimE G W (tC v) (mC x) := fun σ ρ H F ad st Q R S h => fin_same S h v (r F)
theorem de_c {e : Expr} {v : V} {x : D} (h : PE X e (tC v)) (r : ∀ F, Rep G F v x) : DE G W X e (mC x) := ⟨_, h, sim_c r⟩
theorem de_int {i : Int} {j pos} : DE G W X (.Constant (.int i) j pos) (mC (.int i)) := de_c pe_int fun _ => .int i
theorem de_bl {b : Bool} {j pos} : DE G W X (.Constant (.bool b) j pos) (mC (.bl b)) := de_c pe_bl fun _ => .bl b
theorem de_non {j pos} : DE G W X (.Constant .none j pos) (mC .non) := de_c pe_non fun _ => .non
theorem de_str {x : Str} {j pos} : DE G W X (.Constant (.str x) j pos) (mC (.str x)) := de_c pe_str fun _ => .str x
/-! operators -/
abbrev O2 := Va → Va → Sto → Res Va
def SimR2 (G : Ga) (r : R2) (f : O2) : Prop := ∀ (Wv : Value → Option Addr → Hp → Prop) (x y : V) (dx dy : Va) (H F : Hp) (ad : List Addr) (st : Sto) (Q : VK), RepV G F ad x dx → RepV G F ad y dy → SR G H F ad st → Po G Wv H F ad (QV G Q) (f dx dy st) → r x y H Q
def mBin (f : O2) (a b : ME) : ME := fun ρ st => (a ρ st).bind fun x st => (b ρ st).bind fun y st => f x y st
theorem sim_op {r : R2} {f : O2} {ta tb : TE} {ma mb : ME} (hr : SimR2 G r f) (ha : SimE G W ta ma) (hb : SimE G W tb mb) : SimE G W (tOp r ta tb) (mBin f ma mb) := by
  intro σ ρ H F ad st Q R S h
  refine ha σ ρ H F ad st _ R S ?_
  have h1 := Po.bind h
  revert h1
  generalize ma ρ st = ra
  intro h1
  cases ra with
  | bad => exact h1
  | er c fs st1 => exact h1
  | ok x st1 =>
    intro H1 F1 ad1 e1 S1 v rv
    refine hb σ ρ H1 F1 ad1 st1 _ (R.ext e1) S1 ?_
    have h2 := Po.bind (h1 H1 F1 ad1 e1 S1)
    revert h2
    generalize mb ρ st1 = rb
    intro h2
    cases rb with
    | bad => exact h2
    | er c fs st2 => exact h2
    | ok y st2 =>
      intro H2 F2 ad2 e2 S2 w rw
      exact hr _ v w x y H2 F2 ad2 st2 Q (rv.ext e2) rw S2 (h2 H2 F2 ad2 e2 S2)
theorem de_op {op : Operator} {r : R2} {f : O2} {a b : Expr} {pos : Pos} {ma mb : ME} (ho : OpR X (binaryOp op) r) (hr : SimR2 G r f) (ha : DE G W X a ma) (hb : DE G W X b mb) : DE G W X (.BinOp a op b pos) (mBin f ma mb) := by
  obtain ⟨ta, pa, sa⟩ := ha
  obtain ⟨tb, pb, sb⟩ := hb
  exact ⟨_, pe_op ho pa pb, sim_op hr sa sb⟩
theorem de_cmp {op : CmpOp} {r : R2} {f : O2} {a b : Expr} {pos : Pos} {ma mb : ME} (ho : OpR X (compareOp op) r) (hr : SimR2 G r f) (ha : DE G W X a ma) (hb : DE G W X b mb) (hm : behindInMarks op b = false) : DE G W X (.Compare a [op] [b] pos) (mBin f ma mb) := by
  obtain ⟨ta, pa, sa⟩ := ha
  obtain ⟨tb, pb, sb⟩ := hb
  exact ⟨_, pe_cmpR ho pa pb hm, sim_op hr sa sb⟩
/-- a value as a test, by its bool -/
def mTst (a : ME) : MT := fun ρ st => (a ρ st).bind fun x st => match x with
  | .d (.bl b) => .ok b st
  | _ => .bad
theorem sim_tst {ta : TE} {ma : ME} (ha : SimE G W ta ma) : SimT G W (tTest ta) (mTst ma) := by
  intro σ ρ H F ad st Q R S h
  refine ha σ ρ H F ad st _ R S ?_
  have h1 := Po.bind h
  revert h1
  generalize ma ρ st = ra
  intro h1
  cases ra with
  | bad => exact h1
  | er c fs st1 => exact h1
  | ok x st1 =>
    intro H1 F1 ad1 e1 S1 v rv
    have h2 := h1 H1 F1 ad1 e1 S1
    cases x with
    | ref n => exact h2.elim
    | d x =>
      cases x with
      | bl b =>
        cases rv
        exact ⟨b, rfl, fin_same S1 h2⟩
      | _ => exact h2.elim
theorem dt_cmp {op : CmpOp} {r : R2} {f : O2} {a b : Expr} {pos : Pos} {ma mb : ME} (ho : OpR X (compareOp op) r) (hr : SimR2 G r f) (ha : DE G W X a ma) (hb : DE G W X b mb) (hm : behindInMarks op b = false) : DT G W X (.Compare a [op] [b] pos) (mTst (mBin f ma mb)) := by
  obtain ⟨ta, pa, sa⟩ := ha
  obtain ⟨tb, pb, sb⟩ := hb
  exact ⟨_, pt_cmpR ho pa pb hm, sim_tst (sim_op hr sa sb)⟩
/-! ints -/
instance {i j : Int} : Decidable (CMulW i j) := inferInstanceAs (Decidable (i.natAbs.log2 + j.natAbs.log2 < 1000000))
def CDivX (_ j : Int) : Prop := j ≠ 0 ∧ j.natAbs.log2 < 9000
instance {i j : Int} : Decidable (CDivX i j) := inferInstanceAs (Decidable (_ ∧ _))
instance {i j : Int} : Decidable (CPow i j) := inferInstanceAs (Decidable (_ ∧ _ ∧ _))
theorem op_fdivX : OpR X (binaryOp .FloorDiv) (rI CDivX fun i j => .int (i.fdiv j)) := opI fun i j _ _ _ _ _ hc q => PyProof.Rows.floordiv_int hc.1 q (.inl (PyProof.noPylong_of_log2 hc.2))
def oII (f : Int → Int → D) : O2
  | .d (.int i), .d (.int j), st => .ok (.d (f i j)) st
  | _, _, _ => .bad
def oIC (C : Int → Int → Prop) [∀ i j, Decidable (C i j)] (f : Int → Int → D) : O2
  | .d (.int i), .d (.int j), st => if C i j then .ok (.d (f i j)) st else .bad
  | _, _, _ => .bad
theorem sim_II {g : Int → Int → V} {f : Int → Int → D} (r : ∀ F i j, Rep G F (g i j) (f i j)) : SimR2 G (rI0 g) (oII f) := by
  intro Wv x y dx dy H F ad st Q rx ry S h
  cases dx with
  | ref n => exact h.elim
  | d dx => cases dy with
    | ref n => cases dx <;> exact h.elim
    | d dy => cases dx with
      | int i => cases dy with
        | int j => cases rx; cases ry; exact ⟨i, j, rfl, rfl, fin_same S h _ (r F i j)⟩
        | _ => exact h.elim
      | _ => exact h.elim
theorem sim_IC {C : Int → Int → Prop} [∀ i j, Decidable (C i j)] {g : Int → Int → V} {f : Int → Int → D} (r : ∀ F i j, Rep G F (g i j) (f i j)) : SimR2 G (rI C g) (oIC C f) := by
  intro Wv x y dx dy H F ad st Q rx ry S h
  cases dx with
  | ref n => exact h.elim
  | d dx => cases dy with
    | ref n => cases dx <;> exact h.elim
    | d dy => cases dx with
      | int i => cases dy with
        | int j =>
          cases rx; cases ry
          have h : Po G Wv H F ad (QV G Q) (if C i j then .ok (.d (f i j)) st else .bad) := h
          split at h
          · rename_i hc
            exact ⟨i, j, rfl, rfl, hc, fin_same S h _ (r F i j)⟩
          · exact h.elim
        | _ => exact h.elim
      | _ => exact h.elim
/-- one of two rules, by what is there -/
theorem SimR2.or {r r' : R2} {f f' g : O2} (h : SimR2 G r f) (h' : SimR2 G r' f') (hg : ∀ x y st, g x y st = f x y st ∨ g x y st = f' x y st) : SimR2 G (fun x y H Q => r x y H Q ∨ r' x y H Q) g := by
  intro Wv x y dx dy H F ad st Q rx ry S z
  rcases hg dx dy st with e | e
  · rw [e] at z
    exact .inl (h Wv x y dx dy H F ad st Q rx ry S z)
  · rw [e] at z
    exact .inr (h' Wv x y dx dy H F ad st Q rx ry S z)
def oSub : O2 := oII fun i j => .int (i - j)
def oLt : O2 := oII fun i j => .bl (decide (i < j))
def oLe : O2 := oII fun i j => .bl (decide (i ≤ j))
def oGt : O2 := oII fun i j => .bl (decide (j < i))
def oGe : O2 := oII fun i j => .bl (decide (j ≤ i))
def oFdiv : O2 := oIC CDivX fun i j => .int (i.fdiv j)
def oMod : O2 := oIC (fun _ j => j ≠ 0) fun i j => .int (i.fmod j)
def oPow : O2 := oIC CPow fun i j => .int (i ^ j.toNat)
theorem sim_sub : SimR2 G (rI0 fun i j => .int (i - j)) oSub := sim_II fun _ _ _ => .int _
theorem sim_lt : SimR2 G (rI0 fun i j => .bl (decide (i < j))) oLt := sim_II fun _ _ _ => .bl _
theorem sim_le : SimR2 G (rI0 fun i j => .bl (decide (i ≤ j))) oLe := sim_II fun _ _ _ => .bl _
theorem sim_gt : SimR2 G (rI0 fun i j => .bl (decide (j < i))) oGt := sim_II fun _ _ _ => .bl _
theorem sim_ge : SimR2 G (rI0 fun i j => .bl (decide (j ≤ i))) oGe := sim_II fun _ _ _ => .bl _
theorem sim_fdiv : SimR2 G (rI CDivX fun i j => .int (i.fdiv j)) oFdiv := sim_IC fun _ _ _ => .int _
theorem sim_mod : SimR2 G (rI (fun _ j => j ≠ 0) fun i j => .int (i.fmod j)) oMod := sim_IC fun _ _ _ => .int _
theorem sim_pow : SimR2 G (rI CPow fun i j => .int (i ^ j.toNat)) oPow := sim_IC fun _ _ _ => .int _
/-! + of ints, texts, lists, tuples -/
abbrev cap : Nat := 1000000
theorem cap_ok {n : Nat} (h : n ≤ cap) : n ≤ sizeLine := Nat.le_trans h (by decide)
def oAdd : O2
  | .d (.int i), .d (.int j), st => .ok (.d (.int (i + j))) st
  | .d (.str a), .d (.str b), st => if a.length + b.length ≤ cap then .ok (.d (.str (a ++ b))) st else .bad
  | .d (.lst a), .d (.lst b), st => if a.length + b.length ≤ cap then .ok (.d (.lst (a ++ b))) st else .bad
  | .d (.tup a), .d (.tup b), st => if a.length + b.length ≤ cap then .ok (.d (.tup (a ++ b))) st else .bad
  | _, _, _ => .bad
def rStrAdd : R2 := fun x y H Q => ∃ i j, x = .str i ∧ y = .str j ∧ i.length + j.length ≤ sizeLine ∧ Q (.str (i ++ j)) H
def rAdds (K : PySem.W.Frag) : R2 := fun x y H Q => (rI0 (fun i j => .int (i + j)) x y H Q) ∨ rStrAdd x y H Q ∨ rCat x y H Q ∨ rCatA K x y H Q
theorem op_adds (hK : X.K = G.K) : OpR X (binaryOp .Add) (rAdds G.K) := by
  rw [← hK]
  exact op_add.or (op_add_str.or (op_cat.or op_catA))
theorem Reps.append {F : Hp} : ∀ {vs ws : List V} {ds es : List D}, Reps G F vs ds → Reps G F ws es → Reps G F (vs ++ ws) (ds ++ es)
  | _, _, _, _, .nil, b => b
  | _, _, _, _, .cons h t, b => .cons h (Reps.append t b)
theorem sim_add : SimR2 G (rAdds G.K) oAdd := by
  intro Wv x y dx dy H F ad st Q rx ry S h
  cases dx with
  | ref n => exact h.elim
  | d dx => cases dy with
    | ref n => cases dx <;> exact h.elim
    | d dy => cases dx with
      | int i => cases dy with
        | int j => cases rx; cases ry; exact .inl ⟨i, j, rfl, rfl, fin_same S h _ (.int _)⟩
        | _ => exact h.elim
      | str a => cases dy with
        | str b =>
          cases rx; cases ry
          have h : Po G Wv H F ad (QV G Q) (if a.length + b.length ≤ cap then .ok (.d (.str (a ++ b))) st else .bad) := h
          split at h
          · rename_i hc
            exact .inr (.inl ⟨a, b, rfl, rfl, cap_ok hc, fin_same S h _ (.str _)⟩)
          · exact h.elim
        | _ => exact h.elim
      | lst a => cases dy with
        | lst b =>
          have h : Po G Wv H F ad (QV G Q) (if a.length + b.length ≤ cap then .ok (.d (.lst (a ++ b))) st else .bad) := h
          split at h
          · rename_i hc
            cases rx with
            | @lst p vs _ h1 t1 => cases ry with
              | @lst q ws _ h2 t2 =>
                refine .inr (.inr (.inl ⟨p, q, vs, ws, rfl, rfl, S.sub _ _ h1, S.sub _ _ h2, ?_, fun z hz => ?_⟩))
                · rw [t1.length, t2.length]; exact cap_ok hc
                · exact fin_new S hz (.lst upd_same ((t1.append t2).same (ext_new S hz).fz)) h
          · exact h.elim
        | _ => exact h.elim
      | tup a => cases dy with
        | tup b =>
          have h : Po G Wv H F ad (QV G Q) (if a.length + b.length ≤ cap then .ok (.d (.tup (a ++ b))) st else .bad) := h
          split at h
          · rename_i hc
            cases rx with
            | @tup p vs _ h1 t1 => cases ry with
              | @tup q ws _ h2 t2 =>
                refine .inr (.inr (.inr ⟨p, q, vs, ws, rfl, rfl, sqT_same S.sub h1, sqT_same S.sub h2, ?_, fun e => ?_, fun e1 e2 => ?_, fun _ _ z hz => ?_⟩))
                · rw [t1.length, t2.length]; exact cap_ok hc
                · subst e
                  cases t1
                  exact fin_same S h _ (.tup h2 t2)
                · subst e2
                  cases t2
                  rw [List.append_nil] at h
                  exact fin_same S h _ (.tup h1 t1)
                · exact fin_new S hz (.tup (SqT.of upd_same) ((t1.append t2).same (ext_new S hz).fz)) h
          · exact h.elim
        | _ => exact h.elim
      | _ => exact h.elim
/-! * of ints; of a list and an int -/
def oMul : O2
  | .d (.int i), .d (.int j), st => if CMulW i j then .ok (.d (.int (i * j))) st else .bad
  | .d (.lst a), .d (.int j), st => if j ≤ 1000000 ∧ -1000000 ≤ j ∧ a.length * j.toNat ≤ cap then .ok (.d (.lst (List.replicate j.toNat a).flatten)) st else .bad
  | _, _, _ => .bad
def rMuls : R2 := fun x y H Q => rI CMulW (fun i j => .int (i * j)) x y H Q ∨ rRep x y H Q
theorem op_muls : OpR X (binaryOp .Mult) rMuls := op_mulW.or op_rep
theorem Reps.rep {F : Hp} {vs : List V} {ds : List D} (h : Reps G F vs ds) : ∀ k : Nat, Reps G F (List.replicate k vs).flatten (List.replicate k ds).flatten
  | 0 => .nil
  | k + 1 => by
    rw [List.replicate_succ, List.replicate_succ, List.flatten_cons, List.flatten_cons]
    exact h.append (h.rep k)
theorem sim_mul : SimR2 G rMuls oMul := by
  intro Wv x y dx dy H F ad st Q rx ry S h
  cases dx with
  | ref n => exact h.elim
  | d dx => cases dy with
    | ref n => cases dx <;> exact h.elim
    | d dy => cases dx with
      | int i => cases dy with
        | int j =>
          cases rx; cases ry
          have h : Po G Wv H F ad (QV G Q) (if CMulW i j then .ok (.d (.int (i * j))) st else .bad) := h
          split at h
          · rename_i hc
            exact .inl ⟨i, j, rfl, rfl, hc, fin_same S h _ (.int _)⟩
          · exact h.elim
        | _ => exact h.elim
      | lst a => cases dy with
        | int j =>
          have h : Po G Wv H F ad (QV G Q) (if j ≤ 1000000 ∧ -1000000 ≤ j ∧ a.length * j.toNat ≤ cap then .ok (.d (.lst (List.replicate j.toNat a).flatten)) st else .bad) := h
          split at h
          · rename_i hc
            cases rx with
            | @lst p vs _ h1 t1 =>
              cases ry
              refine .inr ⟨p, j, vs, rfl, rfl, S.sub _ _ h1, by omega, by omega, ?_, fun z hz => ?_⟩
              · rw [t1.length]; exact cap_ok hc.2.2
              · exact fin_new S hz (.lst upd_same ((t1.rep j.toNat).same (ext_new S hz).fz)) h
          · exact h.elim
        | _ => exact h.elim
      | _ => exact h.elim
/-! unary -/
abbrev O1 := Va → Sto → Res Va
def SimR1 (G : Ga) (r : V → Hp → VK → Prop) (f : O1) : Prop := ∀ (Wv : Value → Option Addr → Hp → Prop) (x : V) (dx : Va) (H F : Hp) (ad : List Addr) (st : Sto) (Q : VK), RepV G F ad x dx → SR G H F ad st → Po G Wv H F ad (QV G Q) (f dx st) → r x H Q
def mUn (f : O1) (a : ME) : ME := fun ρ st => (a ρ st).bind fun x st => f x st
theorem sim_un {r : V → Hp → VK → Prop} {f : O1} {ta : TE} {ma : ME} (hr : SimR1 G r f) (ha : SimE G W ta ma) : SimE G W (tUn r ta) (mUn f ma) := by
  intro σ ρ H F ad st Q R S h
  refine ha σ ρ H F ad st _ R S ?_
  have h1 := Po.bind h
  revert h1
  generalize ma ρ st = ra
  intro h1
  cases ra with
  | bad => exact h1
  | er c fs st1 => exact h1
  | ok x st1 =>
    intro H1 F1 ad1 e1 S1 v rv
    exact hr _ v x H1 F1 ad1 st1 Q rv S1 (h1 H1 F1 ad1 e1 S1)
def oNeg : O1
  | .d (.int i), st => .ok (.d (.int (-i))) st
  | _, _ => .bad
theorem sim_neg : SimR1 G (rU fun i => .int (-i)) oNeg := by
  intro Wv x dx H F ad st Q rx S h
  cases dx with
  | ref n => exact h.elim
  | d dx => cases dx with
    | int i => cases rx; exact ⟨i, rfl, fin_same S h _ (.int _)⟩
    | _ => exact h.elim
theorem de_neg {a : Expr} {pos : Pos} {ma : ME} (ha : DE G W X a ma) : DE G W X (.UnaryOp .USub a pos) (mUn oNeg ma) := by
  obtain ⟨ta, pa, sa⟩ := ha
  exact ⟨_, pe_un un_neg pa, sim_un sim_neg sa⟩
def oNot : O1
  | .d (.bl b), st => .ok (.d (.bl (!b))) st
  | _, _ => .bad
theorem de_not {a : Expr} {pos : Pos} {ma : ME} (ha : DE G W X a ma) : DE G W X (.UnaryOp .Not a pos) (mUn oNot ma) := by
  obtain ⟨ta, pa, sa⟩ := ha
  refine ⟨_, pe_not pa, ?_⟩
  intro σ ρ H F ad st Q R S h
  refine sa σ ρ H F ad st _ R S ?_
  have h1 := Po.bind h
  revert h1
  generalize ma ρ st = ra
  intro h1
  cases ra with
  | bad => exact h1
  | er c fs st1 => exact h1
  | ok x st1 =>
    intro H1 F1 ad1 e1 S1 v rv
    have h2 := h1 H1 F1 ad1 e1 S1
    cases x with
    | ref n => exact h2.elim
    | d x => cases x with
      | bl b => cases rv; exact ⟨b, rfl, fin_same S1 h2 _ (.bl _)⟩
      | _ => exact h2.elim
/-! and, or, not, as values and as tests -/
def mAnd (a b : ME) : ME := fun ρ st => (a ρ st).bind fun x st => match x with
  | .d (.bl true) => b ρ st
  | .d (.bl false) => .ok (.d (.bl false)) st
  | _ => .bad
def mOr (a b : ME) : ME := fun ρ st => (a ρ st).bind fun x st => match x with
  | .d (.bl true) => .ok (.d (.bl true)) st
  | .d (.bl false) => b ρ st
  | _ => .bad
def mAndT (a b : MT) : MT := fun ρ st => (a ρ st).bind fun x st => if x then b ρ st else .ok false st
def mOrT (a b : MT) : MT := fun ρ st => (a ρ st).bind fun x st => if x then .ok true st else b ρ st
def mNotT (a : MT) : MT := fun ρ st => (a ρ st).bind fun x st => .ok (!x) st
def mIf (t : MT) (a b : ME) : ME := fun ρ st => (t ρ st).bind fun x st => if x then a ρ st else b ρ st
theorem simT_bind {tt : TT} {mt : MT} {β : Type} {P : β → Sto → Hp → Hp → List Addr → Prop} (ht : SimT G W tt mt) {k : Bool → Sto → Res β} {σ : L2.St} {ρ : Ev} {H F : Hp} {ad : List Addr} {st : Sto} {Q : Bool → Hp → Prop} (R : RelE G F ad σ ρ) (S : SR G H F ad st)
    (h : Po G (fun c d H' => W c d σ H') H F ad P ((mt ρ st).bind k)) (q : ∀ b st1 H1 F1 ad1, RelE G F1 ad1 σ ρ → SR G H1 F1 ad1 st1 → Po G (fun c d H' => W c d σ H') H1 F1 ad1 P (k b st1) → Q b H1) : tt σ H Q := by
  refine ht σ ρ H F ad st _ R S ?_
  have h1 := Po.bind h
  revert h1
  generalize mt ρ st = ra
  intro h1
  cases ra with
  | bad => exact h1
  | er c fs st1 => exact h1
  | ok x st1 => exact fun H1 F1 ad1 e1 S1 => q x st1 H1 F1 ad1 (R.ext e1) S1 (h1 H1 F1 ad1 e1 S1)
theorem simE_bind {tt : TE} {mt : ME} {β : Type} {P : β → Sto → Hp → Hp → List Addr → Prop} (ht : SimE G W tt mt) {k : Va → Sto → Res β} {σ : L2.St} {ρ : Ev} {H F : Hp} {ad : List Addr} {st : Sto} {Q : VK} (R : RelE G F ad σ ρ) (S : SR G H F ad st)
    (h : Po G (fun c d H' => W c d σ H') H F ad P ((mt ρ st).bind k)) (q : ∀ x v st1 H1 F1 ad1, Ext H F ad H1 F1 ad1 → RelE G F1 ad1 σ ρ → SR G H1 F1 ad1 st1 → RepV G F1 ad1 v x → Po G (fun c d H' => W c d σ H') H1 F1 ad1 P (k x st1) → Q v H1) : tt σ H Q := by
  refine ht σ ρ H F ad st _ R S ?_
  have h1 := Po.bind h
  revert h1
  generalize mt ρ st = ra
  intro h1
  cases ra with
  | bad => exact h1
  | er c fs st1 => exact h1
  | ok x st1 => exact fun H1 F1 ad1 e1 S1 v rv => q x v st1 H1 F1 ad1 e1 (R.ext e1) S1 rv (h1 H1 F1 ad1 e1 S1)
theorem simA_bind {tt : TA} {mt : MA} {β : Type} {P : β → Sto → Hp → Hp → List Addr → Prop} (ht : SimA G W tt mt) {k : List Va → Sto → Res β} {σ : L2.St} {ρ : Ev} {H F : Hp} {ad : List Addr} {st : Sto} {Q : List V → Hp → Prop} (R : RelE G F ad σ ρ) (S : SR G H F ad st)
    (h : Po G (fun c d H' => W c d σ H') H F ad P ((mt ρ st).bind k)) (q : ∀ x v st1 H1 F1 ad1, Ext H F ad H1 F1 ad1 → RelE G F1 ad1 σ ρ → SR G H1 F1 ad1 st1 → RepVs G F1 ad1 v x → Po G (fun c d H' => W c d σ H') H1 F1 ad1 P (k x st1) → Q v H1) : tt σ H Q := by
  refine ht σ ρ H F ad st _ R S ?_
  have h1 := Po.bind h
  revert h1
  generalize mt ρ st = ra
  intro h1
  cases ra with
  | bad => exact h1
  | er c fs st1 => exact h1
  | ok x st1 => exact fun H1 F1 ad1 e1 S1 v rv => q x v st1 H1 F1 ad1 e1 (R.ext e1) S1 rv (h1 H1 F1 ad1 e1 S1)
theorem sim_and {ta tb : TE} {ma mb : ME} (ha : SimE G W ta ma) (hb : SimE G W tb mb) : SimE G W (tAndV ta tb) (mAnd ma mb) := by
  intro σ ρ H F ad st Q R S h
  refine simE_bind ha R S h fun x v st1 H1 F1 ad1 _ R1 S1 rv h1 => ?_
  cases x with
  | ref n => exact h1.elim
  | d x => cases x with
    | bl b =>
      cases rv
      refine ⟨b, rfl, ?_⟩
      cases b with
      | true => rw [if_pos rfl]; exact hb σ ρ H1 F1 ad1 st1 Q R1 S1 h1
      | false => rw [if_neg Bool.false_ne_true]; exact fin_same S1 h1 _ (.bl _)
    | _ => exact h1.elim
theorem sim_or {ta tb : TE} {ma mb : ME} (ha : SimE G W ta ma) (hb : SimE G W tb mb) : SimE G W (tOrV ta tb) (mOr ma mb) := by
  intro σ ρ H F ad st Q R S h
  refine simE_bind ha R S h fun x v st1 H1 F1 ad1 _ R1 S1 rv h1 => ?_
  cases x with
  | ref n => exact h1.elim
  | d x => cases x with
    | bl b =>
      cases rv
      refine ⟨b, rfl, ?_⟩
      cases b with
      | true => rw [if_pos rfl]; exact fin_same S1 h1 _ (.bl _)
      | false => rw [if_neg Bool.false_ne_true]; exact hb σ ρ H1 F1 ad1 st1 Q R1 S1 h1
    | _ => exact h1.elim
theorem sim_andT {ta tb : TT} {ma mb : MT} (ha : SimT G W ta ma) (hb : SimT G W tb mb) : SimT G W (tAnd ta tb) (mAndT ma mb) := by
  intro σ ρ H F ad st Q R S h
  refine simT_bind ha R S h fun b st1 H1 F1 ad1 R1 S1 h1 => ?_
  cases b with
  | true => rw [if_pos rfl] at h1 ⊢; exact hb σ ρ H1 F1 ad1 st1 Q R1 S1 h1
  | false => rw [if_neg Bool.false_ne_true] at h1 ⊢; exact fin_same S1 h1
theorem sim_orT {ta tb : TT} {ma mb : MT} (ha : SimT G W ta ma) (hb : SimT G W tb mb) : SimT G W (tOr ta tb) (mOrT ma mb) := by
  intro σ ρ H F ad st Q R S h
  refine simT_bind ha R S h fun b st1 H1 F1 ad1 R1 S1 h1 => ?_
  cases b with
  | true => rw [if_pos rfl] at h1 ⊢; exact fin_same S1 h1
  | false => rw [if_neg Bool.false_ne_true] at h1 ⊢; exact hb σ ρ H1 F1 ad1 st1 Q R1 S1 h1
theorem sim_notT {ta : TT} {ma : MT} (ha : SimT G W ta ma) : SimT G W (tNot ta) (mNotT ma) := by
  intro σ ρ H F ad st Q R S h
  exact simT_bind ha R S h fun b st1 H1 F1 ad1 R1 S1 h1 => fin_same S1 h1
theorem sim_if {tt : TT} {ta tb : TE} {mt : MT} {ma mb : ME} (ht : SimT G W tt mt) (ha : SimE G W ta ma) (hb : SimE G W tb mb) : SimE G W (tIf tt ta tb) (mIf mt ma mb) := by
  intro σ ρ H F ad st Q R S h
  refine simT_bind ht R S h fun b st1 H1 F1 ad1 R1 S1 h1 => ?_
  cases b with
  | true => rw [if_pos rfl] at h1 ⊢; exact ha σ ρ H1 F1 ad1 st1 Q R1 S1 h1
  | false => rw [if_neg Bool.false_ne_true] at h1 ⊢; exact hb σ ρ H1 F1 ad1 st1 Q R1 S1 h1
end

section
variable {G : Ga} {W : L2.WX} {X : Cx}
theorem de_and {a b : Expr} {rest : List Expr} {pos : Pos} {ma mb : ME} (ha : DE G W X a ma) (hb : DE G W X (.BoolOp .And (b :: rest) pos) mb) : DE G W X (.BoolOp .And (a :: b :: rest) pos) (mAnd ma mb) := by
  obtain ⟨ta, pa, sa⟩ := ha
  obtain ⟨tb, pb, sb⟩ := hb
  exact ⟨_, pe_and pa pb, sim_and sa sb⟩
theorem de_or {a b : Expr} {rest : List Expr} {pos : Pos} {ma mb : ME} (ha : DE G W X a ma) (hb : DE G W X (.BoolOp .Or (b :: rest) pos) mb) : DE G W X (.BoolOp .Or (a :: b :: rest) pos) (mOr ma mb) := by
  obtain ⟨ta, pa, sa⟩ := ha
  obtain ⟨tb, pb, sb⟩ := hb
  exact ⟨_, pe_or pa pb, sim_or sa sb⟩
theorem de_one {op} {a : Expr} {pos : Pos} {ma : ME} (ha : DE G W X a ma) : DE G W X (.BoolOp op [a] pos) ma := by
  obtain ⟨ta, pa, sa⟩ := ha
  exact ⟨_, pe_one pa, sa⟩
def DW (G : Ga) (W : L2.WX) (X : Cx) (e : Expr) (m : MT) : Prop := ∃ t, PW X e t ∧ SimT G W t m
theorem DW.dt {e : Expr} {m : MT} (h : DW G W X e m) : DT G W X e m := by
  obtain ⟨t, p, s⟩ := h
  exact ⟨t, p.pt, s⟩
theorem dw_and1 {a : Expr} {pos : Pos} {ma : MT} (ha : DT G W X a ma) : DW G W X (.BoolOp .And [a] pos) ma := by
  obtain ⟨t, p, s⟩ := ha
  exact ⟨_, pw_and1 p, s⟩
theorem dw_or1 {a : Expr} {pos : Pos} {ma : MT} (ha : DT G W X a ma) : DW G W X (.BoolOp .Or [a] pos) ma := by
  obtain ⟨t, p, s⟩ := ha
  exact ⟨_, pw_or1 p, s⟩
theorem dw_and {a b : Expr} {rest : List Expr} {pos : Pos} {ma mb : MT} (ha : DT G W X a ma) (hb : DW G W X (.BoolOp .And (b :: rest) pos) mb) : DW G W X (.BoolOp .And (a :: b :: rest) pos) (mAndT ma mb) := by
  obtain ⟨ta, pa, sa⟩ := ha
  obtain ⟨tb, pb, sb⟩ := hb
  exact ⟨_, pw_and pa pb, sim_andT sa sb⟩
theorem dw_or {a b : Expr} {rest : List Expr} {pos : Pos} {ma mb : MT} (ha : DT G W X a ma) (hb : DW G W X (.BoolOp .Or (b :: rest) pos) mb) : DW G W X (.BoolOp .Or (a :: b :: rest) pos) (mOrT ma mb) := by
  obtain ⟨ta, pa, sa⟩ := ha
  obtain ⟨tb, pb, sb⟩ := hb
  exact ⟨_, pw_or pa pb, sim_orT sa sb⟩
theorem dt_not {a : Expr} {pos : Pos} {ma : MT} (ha : DT G W X a ma) : DT G W X (.UnaryOp .Not a pos) (mNotT ma) := by
  obtain ⟨t, p, s⟩ := ha
  exact ⟨_, pt_not p, sim_notT s⟩
theorem de_if {c a b : Expr} {pos : Pos} {mt : MT} {ma mb : ME} (hc : DT G W X c mt) (ha : DE G W X a ma) (hb : DE G W X b mb) : DE G W X (.IfExp c a b pos) (mIf mt ma mb) := by
  obtain ⟨tc, pc, sc⟩ := hc
  obtain ⟨ta, pa, sa⟩ := ha
  obtain ⟨tb, pb, sb⟩ := hb
  exact ⟨_, pe_ifExp pc pa pb, sim_if sc sa sb⟩
/-! truth of any value -/
def truV : Va → Sto → Option Bool
  | .d .non, _ => some false
  | .d (.bl b), _ => some b
  | .d (.int i), _ => some (i != 0)
  | .d (.str x), _ => if x.length ≤ cap then some ((x.length : Int) != 0) else none
  | .d (.lst xs), _ => some (!xs.isEmpty)
  | .d (.tup xs), _ => some (!xs.isEmpty)
  | .ref n, st => match st[n]? with
    | some (.lst xs) => some (!xs.isEmpty)
    | _ => none
  | _, _ => none
def mTru (a : ME) : MT := fun ρ st => (a ρ st).bind fun x st => match truV x st with
  | some b => .ok b st
  | none => .bad
theorem Paired.isEmpty {α β : Type} {R : α → β → Prop} {xs : List α} {ys : List β} (h : Paired R xs ys) : xs.isEmpty = ys.isEmpty := by cases h <;> rfl
theorem Reps.isEmpty {F : Hp} {vs : List V} {ds : List D} (h : Reps G F vs ds) : vs.isEmpty = ds.isEmpty := by cases h <;> rfl
theorem truV_ok {H F : Hp} {ad : List Addr} {st : Sto} {v : V} {x : Va} {b : Bool} (S : SR G H F ad st) (r : RepV G F ad v x) (e : truV x st = some b) : TruV G.K v H b := by
  cases x with
  | ref n =>
    obtain ⟨a, ha, rfl⟩ := r
    have e : (match st[n]? with
      | some (.lst xs) => some (!xs.isEmpty)
      | _ => none) = some b := e
    cases z : st[n]? with
    | none => rw [z] at e; cases e
    | some o =>
      rw [z] at e
      cases o with
      | lst xs =>
        obtain ⟨vs, h1, h2⟩ := S.get ha z
        cases e
        exact .inl ⟨vs, SqL.of h1, by rw [Paired.isEmpty h2]⟩
      | _ => cases e
  | d x =>
    cases r with
    | non => cases e; rfl
    | bl b => cases e; rfl
    | int i => cases e; rfl
    | str x =>
      have e : (if x.length ≤ cap then some ((x.length : Int) != 0) else none) = some b := e
      split at e
      · rename_i hc
        cases e
        exact ⟨cap_ok hc, rfl⟩
      · cases e
    | lst h t => cases e; exact .inl ⟨_, SqL.of (S.sub _ _ h), by rw [t.isEmpty]⟩
    | tup h t => cases e; exact .inr (.inl ⟨_, sqT_same S.sub h, by rw [t.isEmpty]⟩)
    | obj _ h t => cases e
    | cls c _ => cases e
    | ty n => cases e
    | _ => cases e
theorem dt_tru {a : Expr} {ma : ME} (hK : X.K = G.K) (ha : DE G W X a ma) (he : ∀ whole, isTrue a X.env whole = (do let v ← whole; standAt a.pos; holding [v] (truthy v)) := by intro _; rfl) : DT G W X a (mTru ma) := by
  obtain ⟨ta, pa, sa⟩ := ha
  refine ⟨_, pt_truth pa he, ?_⟩
  intro σ ρ H F ad st Q R S h
  refine simE_bind sa R S h fun x v st1 H1 F1 ad1 _ R1 S1 rv h1 => ?_
  cases z : truV x st1 with
  | none => rw [z] at h1; exact h1.elim
  | some b =>
    rw [z] at h1
    refine ⟨b, ?_, fin_same S1 h1⟩
    rw [hK]
    exact truV_ok S1 rv z
/-! arguments -/
def mNil : MA := fun _ st => .ok [] st
def mCons (a : ME) (r : MA) : MA := fun ρ st => (a ρ st).bind fun x st => (r ρ st).bind fun xs st => .ok (x :: xs) st
theorem da_nil : DA G W X [] mNil := ⟨_, pa_nil, fun σ ρ H F ad st Q R S h => fin_same S h _ .nil⟩
theorem da_cons {e : Expr} {es : List Expr} {me : ME} {m : MA} (ha : DE G W X e me) (hr : DA G W X es m) (hs : starEach (e :: es) X.env = (false, eval e X.env) :: starEach es X.env := by rfl) : DA G W X (e :: es) (mCons me m) := by
  obtain ⟨te, pe, se⟩ := ha
  obtain ⟨tr, pr, sr⟩ := hr
  refine ⟨_, pa_cons pe pr hs, ?_⟩
  intro σ ρ H F ad st Q R S h
  refine simE_bind se R S h fun x v st1 H1 F1 ad1 _ R1 S1 rv h1 => ?_
  refine simA_bind sr R1 S1 h1 fun xs vs st2 H2 F2 ad2 e2 R2 S2 rvs h2 => ?_
  exact fin_same S2 h2 _ (.cons (rv.ext e2) rvs)
/-- *e -/
def itemsOf : Va → Sto → Option (List Va)
  | .d (.lst xs), _ => some (xs.map Va.d)
  | .d (.tup xs), _ => some (xs.map Va.d)
  | .ref n, st => match st[n]? with
    | some (.lst xs) => some xs
    | _ => none
  | _, _ => none
theorem itemsOf_ok {H F : Hp} {ad : List Addr} {st : Sto} {v : V} {x : Va} {ds : List Va} (S : SR G H F ad st) (r : RepV G F ad v x) (e : itemsOf x st = some ds) : ∃ a vs, v = .ref a ∧ (SqL G.K H a vs ∨ SqT G.K H a vs) ∧ RepVs G F ad vs ds := by
  cases x with
  | ref n =>
    obtain ⟨a, ha, rfl⟩ := r
    have e : (match st[n]? with
      | some (.lst xs) => some xs
      | _ => none) = some ds := e
    cases z : st[n]? with
    | none => rw [z] at e; cases e
    | some o =>
      rw [z] at e
      cases o with
      | lst xs =>
        obtain ⟨vs, h1, h2⟩ := S.get ha z
        cases e
        exact ⟨a, vs, rfl, .inl (SqL.of h1), h2⟩
      | _ => cases e
  | d x =>
    cases r with
    | lst h t => cases e; exact ⟨_, _, rfl, .inl (SqL.of (S.sub _ _ h)), t.va⟩
    | tup h t => cases e; exact ⟨_, _, rfl, .inr (sqT_same S.sub h), t.va⟩
    | _ => cases e
def mStar (a : ME) (r : MA) : MA := fun ρ st => (a ρ st).bind fun x st => match itemsOf x st with
  | some xs => (r ρ st).bind fun ys st => .ok (xs ++ ys) st
  | none => .bad
theorem Paired.append {α β : Type} {R : α → β → Prop} : ∀ {xs xs2 : List α} {ys ys2 : List β}, Paired R xs ys → Paired R xs2 ys2 → Paired R (xs ++ xs2) (ys ++ ys2)
  | _, _, _, _, .nil, b => b
  | _, _, _, _, .cons h t, b => .cons h (Paired.append t b)
theorem da_star {e : Expr} {es : List Expr} {p : Pos} {me : ME} {m : MA} (hK : X.K = G.K) (ha : DE G W X e me) (hr : DA G W X es m) (hs : starEach (.Starred e p :: es) X.env = (true, eval e X.env) :: starEach es X.env := by rfl) : DA G W X (.Starred e p :: es) (mStar me m) := by
  obtain ⟨te, pe, se⟩ := ha
  obtain ⟨tr, pr, sr⟩ := hr
  refine ⟨_, StX.pa_star pe pr hs, ?_⟩
  intro σ ρ H F ad st Q R S h
  refine simE_bind se R S h fun x v st1 H1 F1 ad1 _ R1 S1 rv h1 => ?_
  cases z : itemsOf x st1 with
  | none => rw [z] at h1; exact h1.elim
  | some xs =>
    rw [z] at h1
    obtain ⟨a, ws, rfl, hq, rw⟩ := itemsOf_ok S1 rv z
    refine ⟨a, ws, rfl, by rw [hK]; exact hq.symm, ?_⟩
    refine simA_bind sr R1 S1 h1 fun ys vs st2 H2 F2 ad2 e2 R2 S2 rvs h2 => ?_
    exact fin_same S2 h2 _ (Paired.append (RepVs.ext e2 rw) rvs)
/-! displays -/
def ds? : List Va → Option (List D)
  | [] => some []
  | .d x :: r => (ds? r).map (x :: ·)
  | .ref _ :: _ => none
@[simp] theorem ds?_map : ∀ xs : List D, ds? (xs.map Va.d) = some xs
  | [] => rfl
  | x :: xs => by
    show (ds? (xs.map Va.d)).map (x :: ·) = _
    rw [ds?_map xs]
    rfl
theorem ds?_ok : ∀ {xs : List Va} {ds : List D}, ds? xs = some ds → xs = ds.map Va.d
  | [], ds, h => by cases h; rfl
  | .d x :: r, ds, h => by
    have h : (ds? r).map (x :: ·) = some ds := h
    cases z : ds? r with
    | none => rw [z] at h; cases h
    | some es =>
      rw [z] at h
      cases h
      rw [ds?_ok z]
      rfl
  | .ref _ :: _, ds, h => by cases h
theorem repVs_ds {F : Hp} {ad : List Addr} {vs : List V} {xs : List Va} {ds : List D} (h : RepVs G F ad vs xs) (e : ds? xs = some ds) : Reps G F vs ds := by
  rw [ds?_ok e] at h
  exact Reps.of h
theorem ds?_len {xs : List Va} {ds : List D} (h : ds? xs = some ds) : xs.length = ds.length := by rw [ds?_ok h, List.length_map]
def mLst (m : MA) : ME := fun ρ st => (m ρ st).bind fun xs st => match ds? xs with
  | some ds => if ds.length ≤ cap then .ok (.d (.lst ds)) st else .bad
  | none => .bad
def mTup (m : MA) : ME := fun ρ st => (m ρ st).bind fun xs st => match ds? xs with
  | some ds => if ds.length ≤ cap then .ok (.d (.tup ds)) st else .bad
  | none => .bad
/-- a list that may change -/
def mLstC (m : MA) : ME := fun ρ st => (m ρ st).bind fun xs st => if xs.length ≤ cap then .ok (.ref st.length) (st ++ [.lst xs]) else .bad
theorem fin_cell {Wv : Value → Option Addr → Hp → Prop} {H F : Hp} {ad : List Addr} {st : Sto} {o : HO} {m : MO} {p : Addr} {Q : VK} (S : SR G H F ad st) (hp : H p = none) (hm : ObjR G F (ad ++ [p]) (upd H p o) p m) (h : Po G Wv H F ad (QV G Q) (.ok (.ref st.length) (st ++ [m]))) : Q (.ref p) (upd H p o) :=
  h _ _ _ (ext_cell S hp) (S.cell hp hm) _ ⟨p, by rw [← S.len]; simp, rfl⟩
theorem de_lst {es : List Expr} {pos : Pos} {m : MA} (h : DA G W X es m) : DE G W X (.List es pos) (mLst m) := by
  obtain ⟨t, p, s⟩ := h
  refine ⟨_, pe_lst p, ?_⟩
  intro σ ρ H F ad st Q R S h
  refine simA_bind s R S h fun xs vs st1 H1 F1 ad1 _ R1 S1 rvs h1 => ?_
  cases z : ds? xs with
  | none => rw [z] at h1; exact h1.elim
  | some ds =>
    rw [z] at h1
    have h1 : Po G _ H1 F1 ad1 (QV G Q) (if ds.length ≤ cap then .ok (.d (.lst ds)) st1 else .bad) := h1
    split at h1
    · rename_i hc
      refine ⟨by rw [Paired.length rvs, ds?_len z]; exact cap_ok hc, fun q hq => ?_⟩
      exact fin_new S1 hq (.lst upd_same ((repVs_ds rvs z).same (ext_new S1 hq).fz)) h1
    · exact h1.elim
theorem de_tup {es : List Expr} {x1} {pos : Pos} {m : MA} (h : DA G W X es m) : DE G W X (.Tuple es x1 pos) (mTup m) := by
  obtain ⟨t, p, s⟩ := h
  refine ⟨_, pe_tup p, ?_⟩
  intro σ ρ H F ad st Q R S h
  refine simA_bind s R S h fun xs vs st1 H1 F1 ad1 _ R1 S1 rvs h1 => ?_
  cases z : ds? xs with
  | none => rw [z] at h1; exact h1.elim
  | some ds =>
    rw [z] at h1
    have h1 : Po G _ H1 F1 ad1 (QV G Q) (if ds.length ≤ cap then .ok (.d (.tup ds)) st1 else .bad) := h1
    split at h1
    · rename_i hc
      refine ⟨by rw [Paired.length rvs, ds?_len z]; exact cap_ok hc, fun q hq => ?_⟩
      exact fin_new S1 hq (.tup (SqT.of upd_same) ((repVs_ds rvs z).same (ext_new S1 hq).fz)) h1
    · exact h1.elim
theorem de_lstC {es : List Expr} {pos : Pos} {m : MA} (h : DA G W X es m) : DE G W X (.List es pos) (mLstC m) := by
  obtain ⟨t, p, s⟩ := h
  refine ⟨_, pe_lst p, ?_⟩
  intro σ ρ H F ad st Q R S h
  refine simA_bind s R S h fun xs vs st1 H1 F1 ad1 _ R1 S1 rvs h1 => ?_
  have h1 : Po G _ H1 F1 ad1 (QV G Q) (if xs.length ≤ cap then .ok (.ref st1.length) (st1 ++ [.lst xs]) else .bad) := h1
  split at h1
  · rename_i hc
    refine ⟨by rw [Paired.length rvs]; exact cap_ok hc, fun q hq => ?_⟩
    exact fin_cell (m := .lst xs) S1 hq ⟨vs, upd_same, RepVs.ext (ext_cell S1 (o := .lst vs) hq) rvs⟩ h1
  · exact h1.elim
/-! items -/
def oIx : O2
  | .d (.lst xs), .d (.int i), st => match atI xs i with
    | some x => .ok (.d x) st
    | none => .bad
  | .d (.tup xs), .d (.int i), st => match atI xs i with
    | some x => .ok (.d x) st
    | none => .bad
  | .d (.lck xs), .d (.int i), st => match atI xs i with
    | some x => .ok (.d (.int x)) st
    | none => .bad
  | .d (.str z), .d (.int i), st => if z.length ≤ cap then (match atI z.cps.toList i with
    | some c => .ok (.d (.str ⟨#[c]⟩)) st
    | none => .bad) else .bad
  | .ref n, .d (.int i), st => match st[n]? with
    | some (.lst xs) => (match atI xs i with
      | some x => .ok x st
      | none => .bad)
    | _ => .bad
  | _, _, _ => .bad
theorem atI_rel {α β : Type} {R : α → β → Prop} {xs : List α} {ys : List β} (hl : xs.length = ys.length) (hg : ∀ (i : Nat) y, ys[i]? = some y → ∃ x, xs[i]? = some x ∧ R x y) {i : Int} {y : β} (h : atI ys i = some y) : ∃ x, atI xs i = some x ∧ R x y := by
  unfold atI at h ⊢
  rw [hl]
  cases z : ixN ys.length i with
  | none => rw [z] at h; cases h
  | some j =>
    rw [z] at h
    exact hg j y h
theorem Paired.getR {α β : Type} {R : α → β → Prop} : ∀ {xs : List α} {ys : List β}, Paired R xs ys → ∀ (i : Nat) y, ys[i]? = some y → ∃ x, xs[i]? = some x ∧ R x y
  | _, _, .nil, _, _, e => by simp at e
  | _, _, .cons h _, 0, _, e => by simp at e; subst e; exact ⟨_, rfl, h⟩
  | _, _, .cons _ t, i + 1, y, e => by
    obtain ⟨v, h1, h2⟩ := Paired.getR t i y (by simpa using e)
    exact ⟨v, by simpa using h1, h2⟩
theorem sim_ix : SimR2 G (rIx G.K) oIx := by
  intro Wv x y dx dy H F ad st Q rx ry S h
  cases dy with
  | ref n =>
    cases dx with
    | ref m => exact h.elim
    | d dx => cases dx <;> exact h.elim
  | d dy =>
    cases dy with
    | int i =>
      cases ry
      cases dx with
      | ref n =>
        obtain ⟨a, ha, rfl⟩ := rx
        have h : Po G Wv H F ad (QV G Q) (match st[n]? with
          | some (.lst xs) => (match atI xs i with
            | some x => .ok x st
            | none => .bad)
          | _ => .bad) := h
        cases z : st[n]? with
        | none => rw [z] at h; exact h.elim
        | some o =>
          rw [z] at h
          cases o with
          | lst xs =>
            obtain ⟨vs, h1, h2⟩ := S.get ha z
            cases e : atI xs i with
            | none =>
              have h : Po G Wv H F ad (QV G Q) (match atI xs i with
                | some x => .ok x st
                | none => .bad) := h
              rw [e] at h; exact h.elim
            | some d =>
              have h : Po G Wv H F ad (QV G Q) (match atI xs i with
                | some x => .ok x st
                | none => .bad) := h
              rw [e] at h
              obtain ⟨v, h3, h4⟩ := atI_rel (Paired.length h2) (Paired.getR h2) e
              exact .inl ⟨a, vs, i, v, rfl, rfl, SqL.of h1, h3, fin_same S h _ h4⟩
          | _ => exact h.elim
      | d dx =>
        cases dx with
        | lst xs =>
          have h : Po G Wv H F ad (QV G Q) (match atI xs i with
            | some x => .ok (.d x) st
            | none => .bad) := h
          cases rx with
          | @lst a vs _ h1 t1 =>
            cases e : atI xs i with
            | none => rw [e] at h; exact h.elim
            | some d =>
              rw [e] at h
              obtain ⟨v, h3, h4⟩ := atI_rel (R := fun v d => Rep G F v d) t1.length (fun j y z => t1.get z) e
              exact .inl ⟨a, vs, i, v, rfl, rfl, SqL.of (S.sub _ _ h1), h3, fin_same S h _ h4⟩
        | tup xs =>
          have h : Po G Wv H F ad (QV G Q) (match atI xs i with
            | some x => .ok (.d x) st
            | none => .bad) := h
          cases rx with
          | @tup a vs _ h1 t1 =>
            cases e : atI xs i with
            | none => rw [e] at h; exact h.elim
            | some d =>
              rw [e] at h
              obtain ⟨v, h3, h4⟩ := atI_rel (R := fun v d => Rep G F v d) t1.length (fun j y z => t1.get z) e
              exact .inr (.inl ⟨a, vs, i, v, rfl, rfl, sqT_same S.sub h1, h3, fin_same S h _ h4⟩)
        | lck xs =>
          have h : Po G Wv H F ad (QV G Q) (match atI xs i with
            | some x => .ok (.d (.int x)) st
            | none => .bad) := h
          cases rx with
          | @lck a _ h1 =>
            cases e : atI xs i with
            | none => rw [e] at h; exact h.elim
            | some d =>
              rw [e] at h
              obtain ⟨v, h3, h4⟩ := atI_rel (xs := xs.map V.int) (ys := xs) (R := fun v d => v = V.int d) (List.length_map _) (fun j y z => ⟨.int y, by rw [List.getElem?_map, z]; rfl, rfl⟩) e
              subst h4
              exact .inl ⟨a, _, i, _, rfl, rfl, S.sub.seq h1, h3, fin_same S h _ (.int d)⟩
        | str z =>
          cases rx
          have h : Po G Wv H F ad (QV G Q) (if z.length ≤ cap then (match atI z.cps.toList i with
            | some c => .ok (.d (.str ⟨#[c]⟩)) st
            | none => .bad) else .bad) := h
          split at h
          · rename_i hc
            cases e : atI z.cps.toList i with
            | none => rw [e] at h; exact h.elim
            | some c =>
              rw [e] at h
              exact .inr (.inr ⟨z, i, c, rfl, rfl, cap_ok hc, e, fin_same S h _ (.str _)⟩)
          · exact h.elim
        | _ => exact h.elim
    | _ =>
      cases dx with
      | ref m => exact h.elim
      | d dx => cases dx <;> exact h.elim
theorem de_ix {a b : Expr} {pos : Pos} {ma mb : ME} (hK : X.K = G.K) (ha : DE G W X a ma) (hb : DE G W X b mb) (hs : PlainIx b) : DE G W X (.Subscript a b pos) (mBin oIx ma mb) := by
  obtain ⟨ta, pa, sa⟩ := ha
  obtain ⟨tb, pb, sb⟩ := hb
  refine ⟨_, pe_ix (r := rIx G.K) (by rw [← hK]; exact ix_seq) pa pb hs, sim_op sim_ix sa sb⟩
/-! slices -/
def cutA {α : Type} (xs : List α) (lo hi : Option Int) : List α := (xs.drop (HT.sIx xs.length 0 lo)).take (HT.sIx xs.length xs.length hi - HT.sIx xs.length 0 lo)
abbrev MO' := Ev → Sto → Res (Option Int)
def SimO (G : Ga) (W : L2.WX) (t : TO) (m : MO') : Prop := ∀ (σ : L2.St) (ρ : Ev) (H F : Hp) (ad : List Addr) (st : Sto) (Q : Option Int → Hp → Prop), RelE G F ad σ ρ → SR G H F ad st →
  Po G (fun c d H' => W c d σ H') H F ad (fun b _ H' _ _ => Q b H') (m ρ st) → t σ H Q
def DO (G : Ga) (W : L2.WX) (X : Cx) (e : Option Expr) (m : MO') : Prop := ∃ t, PO X e t ∧ SimO G W t m
def mNo : MO' := fun _ st => .ok none st
def mPart (a : ME) : MO' := fun ρ st => (a ρ st).bind fun x st => match x with
  | .d (.int i) => .ok (some i) st
  | _ => .bad
theorem do_none : DO G W X none mNo := ⟨_, po_none, fun σ ρ H F ad st Q R S h => fin_same S h⟩
theorem do_some {e : Expr} {m : ME} (h : DE G W X e m) : DO G W X (some e) (mPart m) := by
  obtain ⟨t, p, s⟩ := h
  refine ⟨_, po_some p, ?_⟩
  intro σ ρ H F ad st Q R S h
  refine simE_bind s R S h fun x v st1 H1 F1 ad1 _ R1 S1 rv h1 => ?_
  cases x with
  | ref n => exact h1.elim
  | d x => cases x with
    | int i => cases rv; exact ⟨i, rfl, fin_same S1 h1⟩
    | _ => exact h1.elim
def oSl (x : Va) (lo hi : Option Int) (st : Sto) : Res Va := match x with
  | .d (.lst xs) => .ok (.d (.lst (cutA xs lo hi))) st
  | .d (.tup xs) => .ok (.d (.tup (cutA xs lo hi))) st
  | .ref n => match st[n]? with
    | some (.lst xs) => (match ds? (cutA xs lo hi) with
      | some ds => .ok (.d (.lst ds)) st
      | none => .bad)
    | _ => .bad
  | _ => .bad
def mSl (a : ME) (lo hi : MO') : ME := fun ρ st => (a ρ st).bind fun x st => (lo ρ st).bind fun l st => (hi ρ st).bind fun h st => oSl x l h st
def rSls (K : PySem.W.Frag) : V → Option Int → Option Int → Hp → VK → Prop := fun x lo hi H Q => rSlL K x lo hi H Q ∨ rSlA K x lo hi H Q
theorem Reps.cut {F : Hp} {vs : List V} {ds : List D} (h : Reps G F vs ds) (lo hi : Option Int) : Reps G F (cutV vs lo hi) (cutA ds lo hi) := by
  have hd : ∀ {vs : List V} {ds : List D} (n : Nat), Reps G F vs ds → Reps G F (vs.drop n) (ds.drop n) := by
    intro vs ds n h
    induction n generalizing vs ds with
    | zero => exact h
    | succ n ih => cases h with
      | nil => exact .nil
      | cons _ t => exact ih t
  have ht : ∀ {vs : List V} {ds : List D} (n : Nat), Reps G F vs ds → Reps G F (vs.take n) (ds.take n) := by
    intro vs ds n h
    induction n generalizing vs ds with
    | zero => exact .nil
    | succ n ih => cases h with
      | nil => exact .nil
      | cons h t => exact .cons h (ih t)
  unfold cutV cutA
  rw [h.length]
  exact ht _ (hd _ h)
theorem Paired.drop {α β : Type} {R : α → β → Prop} {xs : List α} {ys : List β} (n : Nat) (h : Paired R xs ys) : Paired R (xs.drop n) (ys.drop n) := by
  induction n generalizing xs ys with
  | zero => exact h
  | succ n ih => cases h with
    | nil => exact .nil
    | cons _ t => exact ih t
theorem Paired.take {α β : Type} {R : α → β → Prop} {xs : List α} {ys : List β} (n : Nat) (h : Paired R xs ys) : Paired R (xs.take n) (ys.take n) := by
  induction n generalizing xs ys with
  | zero => exact .nil
  | succ n ih => cases h with
    | nil => exact .nil
    | cons h t => exact .cons h (ih t)
theorem cut_whole {α : Type} {xs : List α} {lo hi : Option Int} (h : HT.sIx xs.length 0 lo = 0 ∧ HT.sIx xs.length xs.length hi = xs.length) : cutA xs lo hi = xs := by
  unfold cutA
  rw [h.1, h.2]
  simp
theorem de_sl {e : Expr} {lo hi : Option Expr} {p2 pos : Pos} {m : ME} {ml mh : MO'} (hK : X.K = G.K) (he : DE G W X e m) (hl : DO G W X lo ml) (hh : DO G W X hi mh) : DE G W X (.Subscript e (.Slice lo hi none p2) pos) (mSl m ml mh) := by
  obtain ⟨te, pe, se⟩ := he
  obtain ⟨tl, pl, sl⟩ := hl
  obtain ⟨th, ph, sh⟩ := hh
  refine ⟨_, pe_slice (r := rSls G.K) (by rw [← hK]; exact sl_list.or sl_tupA) pe pl ph, ?_⟩
  intro σ ρ H F ad st Q R S h
  refine simE_bind se R S h fun x v st1 H1 F1 ad1 _ R1 S1 rv h1 => ?_
  refine sl σ ρ H1 F1 ad1 st1 _ R1 S1 ?_
  have z1 := Po.bind h1
  revert z1
  generalize ml ρ st1 = rl
  intro z1
  cases rl with
  | bad => exact z1
  | er c fs st2 => exact z1
  | ok l st2 =>
    intro H2 F2 ad2 e2 S2
    have z2 := Po.bind (z1 H2 F2 ad2 e2 S2)
    refine sh σ ρ H2 F2 ad2 st2 _ (R1.ext e2) S2 ?_
    revert z2
    generalize mh ρ st2 = rh
    intro z2
    cases rh with
    | bad => exact z2
    | er c fs st3 => exact z2
    | ok u st3 =>
      intro H3 F3 ad3 e3 S3
      have z3 := z2 H3 F3 ad3 e3 S3
      have r3 := (rv.ext e2).ext e3
      cases x with
      | ref n =>
        obtain ⟨a, ha, rfl⟩ := r3
        have z3 : Po G _ H3 F3 ad3 (QV G Q) (match st3[n]? with
          | some (.lst xs) => (match ds? (cutA xs l u) with
            | some ds => .ok (.d (.lst ds)) st3
            | none => .bad)
          | _ => .bad) := z3
        cases z : st3[n]? with
        | none => rw [z] at z3; exact z3.elim
        | some o =>
          rw [z] at z3
          cases o with
          | lst xs =>
            have z3 : Po G _ H3 F3 ad3 (QV G Q) (match ds? (cutA xs l u) with
              | some ds => .ok (.d (.lst ds)) st3
              | none => .bad) := z3
            obtain ⟨vs, h1, h2⟩ := S3.get ha z
            cases zz : ds? (cutA xs l u) with
            | none => rw [zz] at z3; exact z3.elim
            | some ds =>
              rw [zz] at z3
              refine .inl ⟨a, vs, rfl, SqL.of h1, fun p hp => ?_⟩
              have hr : RepVs G F3 ad3 (cutV vs l u) (cutA xs l u) := by
                unfold cutV cutA
                rw [Paired.length h2]
                exact Paired.take _ (Paired.drop _ h2)
              exact fin_new S3 hp (.lst upd_same ((repVs_ds hr zz).same (ext_new S3 hp).fz)) z3
          | _ => exact z3.elim
      | d x => cases x with
        | lst xs => cases r3 with
          | @lst a vs _ h1 t1 => exact .inl ⟨a, vs, rfl, SqL.of (S3.sub _ _ h1), fun p hp => fin_new S3 hp (.lst upd_same ((t1.cut l u).same (ext_new S3 hp).fz)) z3⟩
        | tup xs => cases r3 with
          | @tup a vs _ h1 t1 =>
            refine .inr ⟨a, vs, rfl, sqT_same S3.sub h1, fun hw => ?_, fun _ p hp => fin_new S3 hp (.tup (SqT.of upd_same) ((t1.cut l u).same (ext_new S3 hp).fz)) z3⟩
            have e : cutA xs l u = xs := cut_whole (by rw [← t1.length]; exact hw)
            have z3 : Po G _ H3 F3 ad3 (QV G Q) (.ok (.d (.tup (cutA xs l u))) st3) := z3
            rw [e] at z3
            exact fin_same S3 z3 _ (.tup h1 t1)
        | _ => exact z3.elim
end

/-! ### built-in calls -/
section
variable {G : Ga} {W : L2.WX} {X : Cx}
abbrev OL := List Va → Sto → Res Va
def SimC (G : Ga) (r : List V → Hp → VK → Prop) (f : OL) : Prop := ∀ (Wv : Value → Option Addr → Hp → Prop) (vs : List V) (ds : List Va) (H F : Hp) (ad : List Addr) (st : Sto) (Q : VK), RepVs G F ad vs ds → SR G H F ad st → Po G Wv H F ad (QV G Q) (f ds st) → r vs H Q
def mCB (f : OL) (m : MA) : ME := fun ρ st => (m ρ st).bind fun xs st => f xs st
theorem sim_cb {r : List V → Hp → VK → Prop} {f : OL} {t : TA} {m : MA} (hr : SimC G r f) (s : SimA G W t m) : SimE G W (tCB r t) (mCB f m) := by
  intro σ ρ H F ad st Q R S h
  exact simA_bind s R S h fun xs vs st1 H1 F1 ad1 _ R1 S1 rvs h1 => hr _ vs xs H1 F1 ad1 st1 Q rvs S1 h1
theorem de_cb {x : Str} {id : String} {r : List V → Hp → VK → Prop} {f : OL} {e : Expr} {es : List Expr} {p pos : Pos} {m : MA} (hc : CallR X (.builtin id) r) (hs : SimC G r f) (hg : Gl X x) (hm : X.mg x = none) (hv : bootBuiltins x = some (.builtin id)) (ha : DA G W X (e :: es) m)
    (hn : x ≠ "__name__" := by decide) (hdb : (x == ("__debug__" : Str)) = false := by decide) (he : starEach (e :: es) X.env = (false, eval e X.env) :: starEach es X.env := by rfl) (hpl : (backTo pos (starEach es X.env)).any (·.1) = false := by rfl) : DE G W X (.Call (.Name x p) (e :: es) [] pos) (mCB f m) := by
  obtain ⟨t, pt, st⟩ := ha
  exact ⟨_, pe_callB hc hg hm hv pt hn hdb he hpl, sim_cb hs st⟩
theorem de_ct {x : Str} {T : String} {r : List V → Hp → VK → Prop} {f : OL} {e : Expr} {es : List Expr} {p pos : Pos} {m : MA} (hc : CallR X (.type T) r) (hs : SimC G r f) (hg : Gl X x) (hm : X.mg x = none) (hv : bootBuiltins x = some (.type T)) (ha : DA G W X (e :: es) m)
    (hn : x ≠ "__name__" := by decide) (hdb : (x == ("__debug__" : Str)) = false := by decide) (he : starEach (e :: es) X.env = (false, eval e X.env) :: starEach es X.env := by rfl) (hpl : (backTo pos (starEach es X.env)).any (·.1) = false := by rfl) : DE G W X (.Call (.Name x p) (e :: es) [] pos) (mCB f m) := by
  obtain ⟨t, pt, st⟩ := ha
  exact ⟨_, pe_callTy hc hg hm hv pt hn hdb he hpl, sim_cb hs st⟩
/-! len -/
def oLen : OL
  | [.d (.str x)], st => if x.length ≤ cap then .ok (.d (.int x.length)) st else .bad
  | [.d (.lst xs)], st => .ok (.d (.int xs.length)) st
  | [.d (.tup xs)], st => .ok (.d (.int xs.length)) st
  | [.d (.lck xs)], st => .ok (.d (.int xs.length)) st
  | [.ref n], st => match st[n]? with
    | some (.lst xs) => .ok (.d (.int xs.length)) st
    | _ => .bad
  | _, _ => .bad
def rLens (K : PySem.W.Frag) : List V → Hp → VK → Prop := fun xs H Q => ∃ x n, xs = [x] ∧ LenV K x H n ∧ Q (.int n) H
theorem cr_len (hK : X.K = G.K) : CallR X (.builtin "len") (rLens G.K) := by rw [← hK]; exact call_len
theorem sim_len : SimC G (rLens G.K) oLen := by
  intro Wv vs ds H F ad st Q r S h
  cases r with
  | nil => exact h.elim
  | @cons v x vs' ds' r t =>
    cases t with
    | cons r2 t2 => cases x with
      | ref n => exact h.elim
      | d x => cases x <;> exact h.elim
    | nil =>
      cases x with
      | ref n =>
        obtain ⟨a, ha, rfl⟩ := r
        have h : Po G Wv H F ad (QV G Q) (match st[n]? with
          | some (.lst xs) => .ok (.d (.int xs.length)) st
          | _ => .bad) := h
        cases z : st[n]? with
        | none => rw [z] at h; exact h.elim
        | some o =>
          rw [z] at h
          cases o with
          | lst xs =>
            obtain ⟨ws, h1, h2⟩ := S.get ha z
            refine ⟨_, ws.length, rfl, .inl ⟨ws, SqL.of h1, rfl⟩, ?_⟩
            rw [Paired.length h2]
            exact fin_same S h _ (.int _)
          | _ => exact h.elim
      | d x =>
        cases r with
        | str x =>
          have h : Po G Wv H F ad (QV G Q) (if x.length ≤ cap then .ok (.d (.int x.length)) st else .bad) := h
          split at h
          · rename_i hc
            exact ⟨_, _, rfl, ⟨cap_ok hc, rfl⟩, fin_same S h _ (.int _)⟩
          · exact h.elim
        | @lst a ws xs h1 t1 =>
          refine ⟨_, ws.length, rfl, .inl ⟨_, SqL.of (S.sub _ _ h1), rfl⟩, ?_⟩
          rw [t1.length]
          exact fin_same S h _ (.int _)
        | @tup a ws xs h1 t1 =>
          refine ⟨_, ws.length, rfl, .inr ⟨_, sqT_same S.sub h1, rfl⟩, ?_⟩
          rw [t1.length]
          exact fin_same S h _ (.int _)
        | @lck a ns h1 =>
          refine ⟨_, (ns.map V.int).length, rfl, .inl ⟨_, S.sub.seq h1, rfl⟩, ?_⟩
          rw [List.length_map]
          exact fin_same S h _ (.int _)
        | _ => exact h.elim
/-! one int, two ints -/
def oI1 (f : Int → Int) : OL
  | [.d (.int i)], st => .ok (.d (.int (f i))) st
  | _, _ => .bad
theorem sim_I1 {f : Int → Int} : SimC G (fun xs H Q => ∃ i, xs = [.int i] ∧ Q (.int (f i)) H) (oI1 f) := by
  intro Wv vs ds H F ad st Q r S h
  cases r with
  | nil => exact h.elim
  | @cons v x vs' ds' r t =>
    cases t with
    | cons r2 t2 => cases x with
      | ref n => exact h.elim
      | d x => cases x <;> exact h.elim
    | nil => cases x with
      | ref n => exact h.elim
      | d x => cases r with
        | int i => exact ⟨i, rfl, fin_same S h _ (.int _)⟩
        | _ => exact h.elim
def oI2 (f : Int → Int → Int) : OL
  | [.d (.int i), .d (.int j)], st => .ok (.d (.int (f i j))) st
  | _, _ => .bad
theorem sim_I2 {f : Int → Int → Int} : SimC G (fun xs H Q => ∃ i j, xs = [.int i, .int j] ∧ Q (.int (f i j)) H) (oI2 f) := by
  intro Wv vs ds H F ad st Q r S h
  cases r with
  | nil => exact h.elim
  | @cons v x vs' ds' r t =>
    cases t with
    | nil => cases x with
      | ref n => exact h.elim
      | d x => cases x <;> exact h.elim
    | @cons v2 x2 _ _ r2 t2 =>
      cases x with
      | ref n => exact h.elim
      | d x => cases x2 with
        | ref n => cases x <;> exact h.elim
        | d x2 => cases t2 with
          | cons _ _ => cases x <;> (try exact h.elim) <;> cases x2 <;> exact h.elim
          | nil => cases r with
            | int i => cases r2 with
              | int j => exact ⟨i, j, rfl, fin_same S h _ (.int _)⟩
              | _ => exact h.elim
            | _ => exact h.elim
def oAbs : OL := oI1 fun i => if i < 0 then -i else i
def oMax : OL := oI2 fun i j => if j > i then j else i
def oMin : OL := oI2 fun i j => if j < i then j else i
def oInt : OL
  | [.d (.int i)], st => .ok (.d (.int i)) st
  | [.d (.bl b)], st => .ok (.d (.int (if b then 1 else 0))) st
  | _, _ => .bad
theorem sim_int : SimC G (fun xs H Q => (∃ i, xs = [.int i] ∧ Q (.int i) H) ∨ ∃ k, xs = [.bl k] ∧ Q (.int (if k then 1 else 0)) H) oInt := by
  intro Wv vs ds H F ad st Q r S h
  cases r with
  | nil => exact h.elim
  | @cons v x vs' ds' r t =>
    cases t with
    | cons r2 t2 => cases x with
      | ref n => exact h.elim
      | d x => cases x <;> exact h.elim
    | nil => cases x with
      | ref n => exact h.elim
      | d x => cases r with
        | int i => exact .inl ⟨i, rfl, fin_same S h _ (.int _)⟩
        | bl b => exact .inr ⟨b, rfl, fin_same S h _ (.int _)⟩
        | _ => exact h.elim
/-! lists of ints, of bools -/
def ints? : List D → Option (List Int)
  | [] => some []
  | .int x :: r => (ints? r).map (x :: ·)
  | _ => none
@[simp] theorem ints?_map : ∀ xs : List Int, ints? (xs.map D.int) = some xs
  | [] => rfl
  | x :: xs => by
    show (ints? (xs.map D.int)).map (x :: ·) = _
    rw [ints?_map xs]
    rfl
theorem ints?_ok {F : Hp} : ∀ {vs : List V} {ds : List D} {ns : List Int}, Reps G F vs ds → ints? ds = some ns → vs = ns.map V.int
  | _, _, ns, .nil, h => by cases h; rfl
  | _, _, ns, @Reps.cons _ _ _ _ _ ds r t, h => by
    cases r with
    | @int i =>
      have h : (ints? ds).map (i :: ·) = some ns := h
      cases z : ints? ds with
      | none => rw [z] at h; cases h
      | some es =>
        rw [z] at h
        cases h
        rw [ints?_ok t z]
        rfl
    | _ => cases h
def bls? : List D → Option (List Bool)
  | [] => some []
  | .bl x :: r => (bls? r).map (x :: ·)
  | _ => none
@[simp] theorem bls?_map : ∀ xs : List Bool, bls? (xs.map D.bl) = some xs
  | [] => rfl
  | x :: xs => by
    show (bls? (xs.map D.bl)).map (x :: ·) = _
    rw [bls?_map xs]
    rfl
theorem bls?_ok {F : Hp} : ∀ {vs : List V} {ds : List D} {ns : List Bool}, Reps G F vs ds → bls? ds = some ns → vs = ns.map V.bl
  | _, _, ns, .nil, h => by cases h; rfl
  | _, _, ns, @Reps.cons _ _ _ _ _ ds r t, h => by
    cases r with
    | @bl i =>
      have h : (bls? ds).map (i :: ·) = some ns := h
      cases z : bls? ds with
      | none => rw [z] at h; cases h
      | some es =>
        rw [z] at h
        cases h
        rw [bls?_ok t z]
        rfl
    | _ => cases h
/-- what is read off a list, frozen or a cell -/
def lst? : Va → Sto → Option (List D)
  | .d (.lst xs), _ => some xs
  | .ref n, st => match st[n]? with
    | some (.lst xs) => ds? xs
    | _ => none
  | _, _ => none
theorem lst?_ok {H F : Hp} {ad : List Addr} {st : Sto} {v : V} {x : Va} {ds : List D} (S : SR G H F ad st) (r : RepV G F ad v x) (e : lst? x st = some ds) : ∃ a vs, v = .ref a ∧ H a = some (.lst vs) ∧ Reps G F vs ds := by
  cases x with
  | ref n =>
    obtain ⟨a, ha, rfl⟩ := r
    have e : (match st[n]? with
      | some (.lst xs) => ds? xs
      | _ => none) = some ds := e
    cases z : st[n]? with
    | none => rw [z] at e; cases e
    | some o =>
      rw [z] at e
      cases o with
      | lst xs =>
        obtain ⟨vs, h1, h2⟩ := S.get ha z
        exact ⟨a, vs, rfl, h1, repVs_ds h2 e⟩
      | _ => cases e
  | d x =>
    cases r with
    | lst h t => cases e; exact ⟨_, _, rfl, S.sub _ _ h, t⟩
    | _ => cases e
def oL1 (f : List D → Option D) : OL
  | [x], st => match lst? x st with
    | some ds => (match f ds with
      | some y => .ok (.d y) st
      | none => .bad)
    | none => .bad
  | _, _ => .bad
theorem sim_L1 {f : List D → Option D} {r : List V → Hp → VK → Prop} (hr : ∀ (F H : Hp) (a : Addr) (vs : List V) (ds : List D) (y : D) (Q : VK), H a = some (.lst vs) → Reps G F vs ds → f ds = some y → (∀ v, Rep G F v y → Q v H) → r [.ref a] H Q) : SimC G r (oL1 f) := by
  intro Wv vs ds H F ad st Q rp S h
  cases rp with
  | nil => exact h.elim
  | @cons v x vs' ds' rp t =>
    cases t with
    | cons r2 t2 => exact h.elim
    | nil =>
      have h : Po G Wv H F ad (QV G Q) (match lst? x st with
        | some ds => (match f ds with
          | some y => .ok (.d y) st
          | none => .bad)
        | none => .bad) := h
      cases z : lst? x st with
      | none => rw [z] at h; exact h.elim
      | some ds =>
        rw [z] at h
        have h : Po G Wv H F ad (QV G Q) (match f ds with
          | some y => .ok (.d y) st
          | none => .bad) := h
        cases zz : f ds with
        | none => rw [zz] at h; exact h.elim
        | some y =>
          rw [zz] at h
          obtain ⟨a, ws, rfl, h1, h2⟩ := lst?_ok S rp z
          exact hr F H a ws ds y Q h1 h2 zz fun v rv => fin_same S h v rv
def oAll : OL := oL1 fun ds => (bls? ds).map fun bs => .bl (bs.all id)
def oAny : OL := oL1 fun ds => (bls? ds).map fun bs => .bl (bs.any id)
def oSum : OL := oL1 fun ds => (ints? ds).map fun bs => .int bs.sum
theorem cr_all' (hK : X.K = G.K) (hc : X.calm = true) : CallR X (.builtin "all") (rAll G.K) := by rw [← hK]; exact cr_all hc
theorem cr_any' (hK : X.K = G.K) (hc : X.calm = true) : CallR X (.builtin "any") (rAny G.K) := by rw [← hK]; exact cr_any hc
theorem cr_sum' (hK : X.K = G.K) (hc : X.calm = true) : CallR X (.builtin "sum") (rSum G.K) := by rw [← hK]; exact cr_sum hc
theorem sim_all : SimC G (rAll G.K) oAll := sim_L1 fun F H a vs ds y Q h t e q => by
  cases z : bls? ds with
  | none => rw [z] at e; cases e
  | some bs =>
    rw [z] at e
    cases e
    rw [bls?_ok t z] at h
    exact ⟨a, bs, rfl, SqL.of h, q _ (.bl _)⟩
theorem sim_any : SimC G (rAny G.K) oAny := sim_L1 fun F H a vs ds y Q h t e q => by
  cases z : bls? ds with
  | none => rw [z] at e; cases e
  | some bs =>
    rw [z] at e
    cases e
    rw [bls?_ok t z] at h
    exact ⟨a, bs, rfl, SqL.of h, q _ (.bl _)⟩
theorem sim_sum : SimC G (rSum G.K) oSum := sim_L1 fun F H a vs ds y Q h t e q => by
  cases z : ints? ds with
  | none => rw [z] at e; cases e
  | some bs =>
    rw [z] at e
    cases e
    rw [ints?_ok t z] at h
    exact ⟨a, bs, rfl, SqL.of h, q _ (.int _)⟩
/-! tuple(x), list(x) -/
def oTuple : OL
  | [.d (.tup xs)], st => .ok (.d (.tup xs)) st
  | [x], st => match lst? x st with
    | some ds => .ok (.d (.tup ds)) st
    | none => .bad
  | _, _ => .bad
def rTupleOf (K : PySem.W.Frag) : List V → Hp → VK → Prop := fun xs H Q => ∃ p ys, xs = [.ref p] ∧ ((SqL K H p ys ∧ ∀ l, H l = none → Q (.ref l) (upd H l (.tup ys))) ∨ (SqT K H p ys ∧ Q (.ref p) H))
def rListOf (K : PySem.W.Frag) : List V → Hp → VK → Prop := fun xs H Q => ∃ p ys, xs = [.ref p] ∧ (SqL K H p ys ∨ SqT K H p ys) ∧ ∀ l, H l = none → Q (.ref l) (upd H l (.lst ys))
theorem cr_tuple (hK : X.K = G.K) : CallR X (.type "tuple") (rTupleOf G.K) := by rw [← hK]; exact call_tuple_of
theorem cr_list (hK : X.K = G.K) : CallR X (.type "list") (rListOf G.K) := by rw [← hK]; exact call_list_of
theorem sim_tuple : SimC G (rTupleOf G.K) oTuple := by
  intro Wv vs ds H F ad st Q rp S h
  cases rp with
  | nil => exact h.elim
  | @cons v x vs' ds' rp t =>
    cases t with
    | cons r2 t2 => cases x with
      | ref n => exact h.elim
      | d x => cases x <;> exact h.elim
    | nil =>
      have go : Po G Wv H F ad (QV G Q) (match lst? x st with
        | some ds => .ok (.d (.tup ds)) st
        | none => .bad) → rTupleOf G.K [v] H Q := by
        intro h
        cases z : lst? x st with
        | none => rw [z] at h; exact h.elim
        | some ds =>
          rw [z] at h
          obtain ⟨a, ws, rfl, h1, h2⟩ := lst?_ok S rp z
          exact ⟨a, ws, rfl, .inl ⟨SqL.of h1, fun l hl => fin_new S hl (.tup (SqT.of upd_same) (h2.same (ext_new S hl).fz)) h⟩⟩
      cases x with
      | ref n => exact go h
      | d x => cases x with
        | tup xs => cases rp with
          | tup h1 t1 => exact ⟨_, _, rfl, .inr ⟨sqT_same S.sub h1, fin_same S h _ (.tup h1 t1)⟩⟩
        | _ => exact go h
def oList : OL
  | [x], st => match itemsOf x st with
    | some xs => (match ds? xs with
      | some ds => .ok (.d (.lst ds)) st
      | none => .bad)
    | none => .bad
  | _, _ => .bad
theorem sim_list : SimC G (rListOf G.K) oList := by
  intro Wv vs ds H F ad st Q rp S h
  cases rp with
  | nil => exact h.elim
  | @cons v x vs' ds' rp t =>
    cases t with
    | cons r2 t2 => exact h.elim
    | nil =>
      have h : Po G Wv H F ad (QV G Q) (match itemsOf x st with
        | some xs => (match ds? xs with
          | some ds => .ok (.d (.lst ds)) st
          | none => .bad)
        | none => .bad) := h
      cases z : itemsOf x st with
      | none => rw [z] at h; exact h.elim
      | some xs =>
        rw [z] at h
        have h : Po G Wv H F ad (QV G Q) (match ds? xs with
          | some ds => .ok (.d (.lst ds)) st
          | none => .bad) := h
        cases zz : ds? xs with
        | none => rw [zz] at h; exact h.elim
        | some ds =>
          rw [zz] at h
          obtain ⟨a, ws, rfl, h1, h2⟩ := itemsOf_ok S rp z
          exact ⟨a, ws, rfl, h1, fun l hl => fin_new S hl (.lst upd_same ((repVs_ds h2 zz).same (ext_new S hl).fz)) h⟩
/-- list(x), to be changed -/
def oListC : OL
  | [x], st => match itemsOf x st with
    | some xs => .ok (.ref st.length) (st ++ [.lst xs])
    | none => .bad
  | _, _ => .bad
theorem sim_listC : SimC G (rListOf G.K) oListC := by
  intro Wv vs ds H F ad st Q rp S h
  cases rp with
  | nil => exact h.elim
  | @cons v x vs' ds' rp t =>
    cases t with
    | cons r2 t2 => exact h.elim
    | nil =>
      have h : Po G Wv H F ad (QV G Q) (match itemsOf x st with
        | some xs => .ok (.ref st.length) (st ++ [.lst xs])
        | none => .bad) := h
      cases z : itemsOf x st with
      | none => rw [z] at h; exact h.elim
      | some xs =>
        rw [z] at h
        obtain ⟨a, ws, rfl, h1, h2⟩ := itemsOf_ok S rp z
        exact ⟨a, ws, rfl, h1, fun l hl => fin_cell (m := .lst xs) S hl ⟨ws, upd_same, RepVs.ext (ext_cell S (o := .lst ws) hl) h2⟩ h⟩
/-! isinstance -/
inductive Tag where
  | ty (n : String) | cl (c : String)
def tagOf : Va → Sto → Option Tag
  | .d .non, _ => some (.ty "NoneType")
  | .d (.bl _), _ => some (.ty "bool")
  | .d (.int _), _ => some (.ty "int")
  | .d (.str _), _ => some (.ty "str")
  | .d (.lst _), _ => some (.ty "list")
  | .d (.tup _), _ => some (.ty "tuple")
  | .d (.obj c _), _ => some (.cl c)
  | .ref n, st => match st[n]? with
    | some (.lst _) => some (.ty "list")
    | some (.obj c _) => some (.cl c)
    | _ => none
  | _, _ => none
def Tag.val (G : Ga) : Tag → Value
  | .ty n => .type n
  | .cl c => .ref (G.ca c)
theorem tyT' {K : PySem.W.Frag} {H : Hp} {a : Addr} {xs : List V} (h : SqT K H a xs) : TyX K H (.ref a) (.type "tuple") := by
  rcases h with (h | ⟨o, h⟩) | ⟨o, its, n, h1, h2, _⟩
  · exact .base (.tup h)
  · exact .fTuple h
  · exact .kTuple h1 h2
theorem ty_ins {H : Hp} {a dx : Addr} {vfs : List (Str × V)} {c : String} (hc : c ∈ G.cs) (h : H a = some (.ins (G.ca c) dx vfs)) : TyX G.K H (.ref a) (.ref (G.ca c)) :=
  .base (.ins h (G.cok c hc).cl (G.cok c hc).tc (G.cok c hc).tg (G.cok c hc).tk (G.cok c hc).tm)
theorem tagOf_ok {H F : Hp} {ad : List Addr} {st : Sto} {v : V} {x : Va} {g : Tag} (S : SR G H F ad st) (r : RepV G F ad v x) (e : tagOf x st = some g) : TyX G.K H v (g.val G) ∧ (∀ c, g = .cl c → c ∈ G.cs) ∧ (∀ n, g = .ty n → n ∈ ["int", "bool", "str", "list", "tuple", "dict", "NoneType"]) := by
  cases x with
  | ref n =>
    obtain ⟨a, ha, rfl⟩ := r
    have e : (match st[n]? with
      | some (.lst _) => some (.ty "list")
      | some (.obj c _) => some (.cl c)
      | _ => none) = some g := e
    cases z : st[n]? with
    | none => rw [z] at e; cases e
    | some o =>
      rw [z] at e
      cases o with
      | lst xs =>
        obtain ⟨vs, h1, h2⟩ := S.get ha z
        cases e
        exact ⟨.base (.lst h1), fun c z => (by cases z), fun n z => (by cases z; decide)⟩
      | obj c fs =>
        obtain ⟨hc, dx, vfs, h1, h2⟩ := S.get ha z
        cases e
        exact ⟨ty_ins hc h1, fun c z => (by cases z; exact hc), fun n z => (by cases z)⟩
      | dct _ => cases e
      | dcn _ => cases e
  | d x =>
    cases r with
    | non => cases e; exact ⟨.base .non, fun c z => (by cases z), fun n z => (by cases z; decide)⟩
    | bl b => cases e; exact ⟨.base (.bl b), fun c z => (by cases z), fun n z => (by cases z; decide)⟩
    | int i => cases e; exact ⟨.base (.int i), fun c z => (by cases z), fun n z => (by cases z; decide)⟩
    | str x => cases e; exact ⟨.base (.str x), fun c z => (by cases z), fun n z => (by cases z; decide)⟩
    | lst h t => cases e; exact ⟨.base (.lst (S.sub _ _ h)), fun c z => (by cases z), fun n z => (by cases z; decide)⟩
    | tup h t => cases e; exact ⟨tyT' (sqT_same S.sub h), fun c z => (by cases z), fun n z => (by cases z; decide)⟩
    | obj hc h t => cases e; exact ⟨ty_ins hc (S.sub _ _ h), fun c z => (by cases z; exact hc), fun n z => (by cases z)⟩
    | cls c _ => cases e
    | ty n => cases e
    | lck h => cases e
    | _ => cases e
/-- the answer for one class -/
def isi1 : Tag → D → Option Bool
  | .ty n, .ty T => if T ∈ ["int", "bool", "str", "list", "tuple", "dict"] then some (n == T || (n == "bool" && T == "int")) else none
  | .cl _, .ty T => if T ∈ ["int", "bool", "str", "list", "tuple", "dict"] then some false else none
  | .ty _, .cls _ => some false
  | .cl c, .cls e => some (decide (c = e))
  | _, _ => none
theorem isi1_ok {g : Tag} {t : D} {b : Bool} {F : Hp} {v : V} (e : isi1 g t = some b) (hg : ∀ c, g = .cl c → c ∈ G.cs) (hn : ∀ n, g = .ty n → n ∈ ["int", "bool", "str", "list", "tuple", "dict", "NoneType"]) (ht : ∀ c, t = .cls c → c ∈ G.cs) (r : Rep G F v t) : ∃ u, ClsV v u ∧ PySem.W.kitOne G.K (g.val G) u = some b := by
  cases g with
  | ty n =>
    cases t with
    | ty T =>
      cases r
      have e : (if T ∈ ["int", "bool", "str", "list", "tuple", "dict"] then some (n == T || (n == "bool" && T == "int")) else none) = some b := e
      split at e
      · rename_i hT
        refine ⟨_, .ty T, ?_⟩
        have h1 := hn n rfl
        cases e
        simp only [List.mem_cons, List.not_mem_nil, or_false] at h1 hT
        rcases h1 with h1 | h1 | h1 | h1 | h1 | h1 | h1 <;> rcases hT with hT | hT | hT | hT | hT | hT <;> subst h1 hT <;> exact kit_ty (by decide +kernel)
      · cases e
    | cls c =>
      cases r
      cases e
      exact ⟨_, .own _, (G.cok c (ht c rfl)).i n (hn n rfl)⟩
    | _ => cases e
  | cl c =>
    cases t with
    | ty T =>
      cases r
      have e : (if T ∈ ["int", "bool", "str", "list", "tuple", "dict"] then some false else none) = some b := e
      split at e
      · rename_i hT
        cases e
        exact ⟨_, .ty T, (G.cok c (hg c rfl)).o T hT⟩
      · cases e
    | cls k =>
      cases r
      cases e
      exact ⟨_, .own _, G.kit c (hg c rfl) k (ht k rfl)⟩
    | _ => cases e
def isiA (g : Tag) : List D → Option Bool
  | [] => some false
  | t :: ts => match isi1 g t, isiA g ts with
    | some a, some b => some (a || b)
    | _, _ => none
end

section
variable {G : Ga} {W : L2.WX} {X : Cx}
def oIsi : OL
  | [x, .d t], st => match tagOf x st with
    | some g => (match isi1 g t with
      | some b => .ok (.d (.bl b)) st
      | none => .bad)
    | none => .bad
  | _, _ => .bad
theorem cr_isi (hK : X.K = G.K) : CallR X (.builtin "isinstance") (rIsi G.K) := by rw [← hK]; exact call_isi
theorem sim_isi : SimC G (rIsi G.K) oIsi := by
  intro Wv vs ds H F ad st Q rp S h
  cases rp with
  | nil => exact h.elim
  | @cons v x vs' ds' rp t =>
    cases t with
    | nil => exact h.elim
    | @cons v2 y _ _ rq t =>
      cases y with
      | ref n => exact h.elim
      | d y => cases t with
        | cons _ _ => exact h.elim
        | nil =>
          have h : Po G Wv H F ad (QV G Q) (match tagOf x st with
            | some g => (match isi1 g y with
              | some b => .ok (.d (.bl b)) st
              | none => .bad)
            | none => .bad) := h
          cases z : tagOf x st with
          | none => rw [z] at h; exact h.elim
          | some g =>
            rw [z] at h
            have h : Po G Wv H F ad (QV G Q) (match isi1 g y with
              | some b => .ok (.d (.bl b)) st
              | none => .bad) := h
            cases zz : isi1 g y with
            | none => rw [zz] at h; exact h.elim
            | some b =>
              rw [zz] at h
              obtain ⟨h1, h2, h3⟩ := tagOf_ok S rp z
              have h4 : ∀ c, y = .cls c → c ∈ G.cs := fun c e => by
                subst e
                cases rq with
                | cls _ hc => exact hc
              obtain ⟨u, h5, h6⟩ := isi1_ok zz h2 h3 h4 rq
              exact ⟨v, v2, _, u, b, rfl, h5, h1, h6, fin_same S h _ (.bl _)⟩
/-- isinstance(x, (list, tuple)) -/
def mIsiLT (a : ME) : ME := fun ρ st => (a ρ st).bind fun x st => match tagOf x st with
  | some (.ty n) => .ok (.d (.bl (n == "list" || n == "tuple"))) st
  | some (.cl _) => .ok (.d (.bl false)) st
  | none => .bad
theorem kitLT {g : Tag} (hg : ∀ c, g = .cl c → c ∈ G.cs) (hn : ∀ n, g = .ty n → n ∈ ["int", "bool", "str", "list", "tuple", "dict", "NoneType"]) :
    PySem.W.kitAny G.K (g.val G) [.type "list", .type "tuple"] = some (match g with | .ty n => n == "list" || n == "tuple" | .cl _ => false) := by
  cases g with
  | cl c => exact kitAny_cons (b := false) ((G.cok c (hg c rfl)).o "list" (by decide)) (fun _ => kitAny_cons (b := false) ((G.cok c (hg c rfl)).o "tuple" (by decide)) (fun _ => kitAny_nil) (fun z => by cases z)) (fun z => by cases z)
  | ty n =>
    have h1 := hn n rfl
    simp only [List.mem_cons, List.not_mem_nil, or_false] at h1
    rcases h1 with h1 | h1 | h1 | h1 | h1 | h1 | h1 <;> subst h1
    · exact kitAny_cons (b := false) (kit_ty (by decide +kernel)) (fun _ => kitAny_cons (b := false) (kit_ty (by decide +kernel)) (fun _ => kitAny_nil) (fun z => by cases z)) (fun z => by cases z)
    · exact kitAny_cons (b := false) (kit_ty (by decide +kernel)) (fun _ => kitAny_cons (b := false) (kit_ty (by decide +kernel)) (fun _ => kitAny_nil) (fun z => by cases z)) (fun z => by cases z)
    · exact kitAny_cons (b := false) (kit_ty (by decide +kernel)) (fun _ => kitAny_cons (b := false) (kit_ty (by decide +kernel)) (fun _ => kitAny_nil) (fun z => by cases z)) (fun z => by cases z)
    · exact kitAny_cons (b := true) (kit_ty (by decide +kernel)) (fun z => by cases z) (fun _ => rfl)
    · exact kitAny_cons (b := false) (kit_ty (by decide +kernel)) (fun _ => kitAny_cons (b := true) (kit_ty (by decide +kernel)) (fun z => by cases z) (fun _ => rfl)) (fun z => by cases z)
    · exact kitAny_cons (b := false) (kit_ty (by decide +kernel)) (fun _ => kitAny_cons (b := false) (kit_ty (by decide +kernel)) (fun _ => kitAny_nil) (fun z => by cases z)) (fun z => by cases z)
    · exact kitAny_cons (b := false) (kit_ty (by decide +kernel)) (fun _ => kitAny_cons (b := false) (kit_ty (by decide +kernel)) (fun _ => kitAny_nil) (fun z => by cases z)) (fun z => by cases z)
theorem de_isiLT {a l t : Expr} {x : Str} {x1} {p p2 pos : Pos} {ma : ME} (hK : X.K = G.K) (hg : Gl X x) (hm : X.mg x = none) (hv : bootBuiltins x = some (.builtin "isinstance")) (ha : DE G W X a ma) (hl : PE X l (tC (.ty "list"))) (ht : PE X t (tC (.ty "tuple")))
    (hn : x ≠ "__name__" := by decide) (hdb : (x == ("__debug__" : Str)) = false := by decide)
    (h1 : starEach [l, t] X.env = (false, eval l X.env) :: starEach [t] X.env := by rfl) (h2 : starEach [t] X.env = (false, eval t X.env) :: starEach [] X.env := by rfl) (h3 : starEach [.Tuple [l, t] x1 p2] X.env = (false, eval (.Tuple [l, t] x1 p2) X.env) :: starEach [] X.env := by rfl)
    (he : starEach [a, .Tuple [l, t] x1 p2] X.env = (false, eval a X.env) :: starEach [.Tuple [l, t] x1 p2] X.env := by rfl) (hpl : (backTo pos (starEach [.Tuple [l, t] x1 p2] X.env)).any (·.1) = false := by rfl) : DE G W X (.Call (.Name x p) [a, .Tuple [l, t] x1 p2] [] pos) (mIsiLT ma) := by
  obtain ⟨ta, pa, sa⟩ := ha
  refine ⟨_, pe_callB (r := rIsiT G.K) (by rw [← hK]; exact call_isiT) hg hm hv (pa_cons pa (pa_cons (pe_tup (pa_cons hl (pa_cons ht pa_nil h2) h1)) pa_nil h3) he) hn hdb he hpl, ?_⟩
  intro σ ρ H F ad st Q R S h
  refine simE_bind sa R S h fun y v st1 H1 F1 ad1 _ R1 S1 rv h1 => ?_
  refine ⟨(by show 2 ≤ sizeLine; decide), fun q hq => ?_⟩
  cases z : tagOf y st1 with
  | none => rw [z] at h1; exact h1.elim
  | some g =>
    rw [z] at h1
    have E := ext_new S1 (o := .tup [.ty "list", .ty "tuple"]) hq
    have S2 := S1.new (o := .tup [.ty "list", .ty "tuple"]) hq
    obtain ⟨k1, k2, k3⟩ := tagOf_ok S2 (rv.ext E) z
    refine ⟨v, q, _, _, _, _, rfl, upd_same, .cons (.ty _) (.cons (.ty _) .nil), k1, kitLT k2 k3, ?_⟩
    cases g with
    | ty n => exact h1 _ _ _ E S2 _ (.bl _)
    | cl c => exact h1 _ _ _ E S2 _ (.bl _)
/-! == of data -/
mutual
def D.eqv : D → D → Bool
  | .non, .non => true
  | .bl a, .bl b => a == b
  | .bl a, .int j => (if a then 1 else 0) == j
  | .int i, .bl b => i == (if b then 1 else 0)
  | .int i, .int j => i == j
  | .str x, .str y => x == y
  | .lst xs, .lst ys => D.eqvs xs ys
  | .tup xs, .tup ys => D.eqvs xs ys
  | _, _ => false
def D.eqvs : List D → List D → Bool
  | [], [] => true
  | x :: xs, y :: ys => D.eqv x y && D.eqvs xs ys
  | _, _ => false
end
mutual
def toP : D → PyData
  | .non => .none
  | .bl b => .bool b
  | .int i => .int i
  | .str x => .str x
  | .lst xs => .list (toPs xs)
  | .tup xs => .tuple (toPs xs)
  | _ => .dict []
def toPs : List D → List PyData
  | [] => []
  | x :: xs => toP x :: toPs xs
end
mutual
def okd : Nat → D → Bool
  | _, .non => true
  | _, .bl _ => true
  | _, .int _ => true
  | _, .str x => PyData.strOk x
  | k, .lst xs => decide (k ≠ 0) && okds (k - 1) xs
  | k, .tup xs => decide (k ≠ 0) && okds (k - 1) xs
  | _, _ => false
def okds : Nat → List D → Bool
  | _, [] => true
  | k, x :: xs => okd k x && okds k xs
end
mutual
theorem okd_dp {F H : Hp} (S : Same F H) : ∀ {k : Nat} {x : D} {v : V}, okd k x = true → Rep G F v x → Dp G.K H v (toP x) ∧ (toP x).canLay0 = true ∧ (toP x).depth ≤ k
  | k, .non, v, _, r => by cases r; exact ⟨.non, rfl, Nat.zero_le _⟩
  | k, .bl b, v, _, r => by cases r; exact ⟨.bl b, rfl, Nat.zero_le _⟩
  | k, .int i, v, _, r => by cases r; exact ⟨.int i, rfl, Nat.zero_le _⟩
  | k, .str x, v, h, r => by cases r; exact ⟨.str x, h, Nat.zero_le _⟩
  | k, .lst xs, v, h, r => by
    cases r with
    | @lst a vs _ h1 t =>
      obtain ⟨h2, h3⟩ := Bool.and_eq_true_iff.mp (show (decide (k ≠ 0) && okds (k - 1) xs) = true from h)
      obtain ⟨e1, e2, e3⟩ := okds_dp S (xs := xs) h3 t
      have hk : k ≠ 0 := of_decide_eq_true h2
      exact ⟨.lst (SqL.of (S _ _ h1)) e1, e2, by show PyData.depthAll (toPs xs) + 1 ≤ k; omega⟩
  | k, .tup xs, v, h, r => by
    cases r with
    | @tup a vs _ h1 t =>
      obtain ⟨h2, h3⟩ := Bool.and_eq_true_iff.mp (show (decide (k ≠ 0) && okds (k - 1) xs) = true from h)
      obtain ⟨e1, e2, e3⟩ := okds_dp S (xs := xs) h3 t
      have hk : k ≠ 0 := of_decide_eq_true h2
      exact ⟨.tup (sqT_same S h1) e1, e2, by show PyData.depthAll (toPs xs) + 1 ≤ k; omega⟩
  | k, .obj _ _, v, h, r => by simp [okd] at h
  | k, .dct _, v, h, r => by simp [okd] at h
  | k, .dcn _, v, h, r => by simp [okd] at h
  | k, .cls _, v, h, r => by simp [okd] at h
  | k, .ty _, v, h, r => by simp [okd] at h
  | k, .lck _, v, h, r => by simp [okd] at h
  | k, .idn _ _, v, h, r => by simp [okd] at h
theorem okds_dp {F H : Hp} (S : Same F H) : ∀ {k : Nat} {xs : List D} {vs : List V}, okds k xs = true → Reps G F vs xs → DpAll G.K H vs (toPs xs) ∧ PyData.canLayAll0 (toPs xs) = true ∧ PyData.depthAll (toPs xs) ≤ k
  | k, [], vs, _, r => by cases r; exact ⟨.nil, rfl, Nat.zero_le _⟩
  | k, x :: xs, vs, h, r => by
    cases r with
    | @cons v _ vs _ r t =>
      obtain ⟨h2, h3⟩ := Bool.and_eq_true_iff.mp (show (okd k x && okds k xs) = true from h)
      obtain ⟨e1, e2, e3⟩ := okd_dp S (x := x) h2 r
      obtain ⟨f1, f2, f3⟩ := okds_dp S (xs := xs) h3 t
      exact ⟨.cons e1 f1, by show (PyData.canLay0 (toP x) && PyData.canLayAll0 (toPs xs)) = true; rw [e2, f2]; rfl, Nat.max_le.mpr ⟨e3, f3⟩⟩
end
mutual
theorem eqv_toP : ∀ {k l : Nat} {x y : D}, okd k x = true → okd l y = true → PyData.eqv (toP x) (toP y) = D.eqv x y
  | k, l, .obj _ _, y, h, _ => by simp [okd] at h
  | k, l, .dct _, y, h, _ => by simp [okd] at h
  | k, l, .dcn _, y, h, _ => by simp [okd] at h
  | k, l, .cls _, y, h, _ => by simp [okd] at h
  | k, l, .ty _, y, h, _ => by simp [okd] at h
  | k, l, .lck _, y, h, _ => by simp [okd] at h
  | k, l, .idn _ _, y, h, _ => by simp [okd] at h
  | k, l, .non, y, _, h2 => by cases y <;> first | (simp [okd] at h2; done) | simp [toP, PyData.eqv, D.eqv]
  | k, l, .bl b, y, _, h2 => by cases y <;> first | (simp [okd] at h2; done) | simp [toP, PyData.eqv, D.eqv]
  | k, l, .int i, y, _, h2 => by cases y <;> first | (simp [okd] at h2; done) | simp [toP, PyData.eqv, D.eqv]
  | k, l, .str x, y, _, h2 => by cases y <;> first | (simp [okd] at h2; done) | simp [toP, PyData.eqv, D.eqv]
  | k, l, .lst xs, y, h1, h2 => by
    cases y with
    | lst ys =>
      have e1 := (Bool.and_eq_true_iff.mp (show (decide (k ≠ 0) && okds (k - 1) xs) = true from h1)).2
      have e2 := (Bool.and_eq_true_iff.mp (show (decide (l ≠ 0) && okds (l - 1) ys) = true from h2)).2
      have := eqvs_toP (xs := xs) (ys := ys) e1 e2
      simpa [toP, PyData.eqv, D.eqv] using this
    | _ => first | (simp [okd] at h2; done) | simp [toP, PyData.eqv, D.eqv]
  | k, l, .tup xs, y, h1, h2 => by
    cases y with
    | tup ys =>
      have e1 := (Bool.and_eq_true_iff.mp (show (decide (k ≠ 0) && okds (k - 1) xs) = true from h1)).2
      have e2 := (Bool.and_eq_true_iff.mp (show (decide (l ≠ 0) && okds (l - 1) ys) = true from h2)).2
      have := eqvs_toP (xs := xs) (ys := ys) e1 e2
      simpa [toP, PyData.eqv, D.eqv] using this
    | _ => first | (simp [okd] at h2; done) | simp [toP, PyData.eqv, D.eqv]
theorem eqvs_toP : ∀ {k l : Nat} {xs ys : List D}, okds k xs = true → okds l ys = true → PyData.eqvAll (toPs xs) (toPs ys) = D.eqvs xs ys
  | k, l, [], [], _, _ => by simp [toPs, PyData.eqvAll, D.eqvs]
  | k, l, [], _ :: _, _, _ => by simp [toPs, PyData.eqvAll, D.eqvs]
  | k, l, _ :: _, [], _, _ => by simp [toPs, PyData.eqvAll, D.eqvs]
  | k, l, x :: xs, y :: ys, h1, h2 => by
    obtain ⟨a1, a2⟩ := Bool.and_eq_true_iff.mp (show (okd k x && okds k xs) = true from h1)
    obtain ⟨b1, b2⟩ := Bool.and_eq_true_iff.mp (show (okd l y && okds l ys) = true from h2)
    simp only [toPs, PyData.eqvAll, D.eqvs]
    rw [eqv_toP (x := x) (y := y) a1 b1, eqvs_toP (xs := xs) (ys := ys) a2 b2]
end
theorem okds_all {k : Nat} : ∀ xs : List D, okds k xs = xs.all (okd k)
  | [] => rfl
  | x :: xs => by
    show (okd k x && okds k xs) = _
    rw [okds_all xs]
    rfl
/-- frozen data behind a value: a cell of data, too -/
def dat? : Va → Sto → Option D
  | .d x, _ => some x
  | .ref n, st => match st[n]? with
    | some (.lst xs) => (ds? xs).map D.lst
    | _ => none
def isSeqD : D → Bool
  | .lst _ => true
  | .tup _ => true
  | _ => false
/-- one and the same list or tuple -/
def sameO : Va → Va → Bool
  | .d (.idn x a), .d (.idn y b) => isSeqD x && decide (a = b)
  | _, _ => false
def oEqN (neg : Bool) : O2 := fun x y st => match dat? (strip x) st, dat? (strip y) st with
  | some a, some b => if okd 60 a = true ∧ okd 60 b = true then .ok (.d (.bl (if neg then !D.eqv a b else D.eqv a b))) st else .bad
  | _, _ => .bad
def oEq : O2 := fun x y st => if sameO x y = true then .ok (.d (.bl true)) st else oEqN false x y st
def oNe : O2 := oEqN true
theorem dat?_ok {k : Nat} {H F : Hp} {ad : List Addr} {st : Sto} {v : V} {x : Va} {a : D} (S : SR G H F ad st) (r : RepV G F ad v x) (e : dat? x st = some a) (h : okd k a = true) : Dp G.K H v (toP a) ∧ (toP a).canLay0 = true ∧ (toP a).depth ≤ k := by
  cases x with
  | d x => cases e; exact okd_dp S.sub h r
  | ref n =>
    obtain ⟨p, hp, rfl⟩ := r
    have e : (match st[n]? with
      | some (.lst xs) => (ds? xs).map D.lst
      | _ => none) = some a := e
    cases z : st[n]? with
    | none => rw [z] at e; cases e
    | some o =>
      rw [z] at e
      cases o with
      | lst xs =>
        have e : (ds? xs).map D.lst = some a := e
        obtain ⟨vs, h1, h2⟩ := S.get hp z
        cases zz : ds? xs with
        | none => rw [zz] at e; cases e
        | some ds =>
          rw [zz] at e
          cases e
          obtain ⟨h3, h4⟩ := Bool.and_eq_true_iff.mp (show (decide (k ≠ 0) && okds (k - 1) ds) = true from h)
          obtain ⟨e1, e2, e3⟩ := okds_dp S.sub (xs := ds) h4 (repVs_ds h2 zz)
          have hk : k ≠ 0 := of_decide_eq_true h3
          exact ⟨.lst (SqL.of h1) e1, e2, by show PyData.depthAll (toPs ds) + 1 ≤ k; omega⟩
      | _ => cases e
theorem shaped_of {d : PyData} {k : Nat} (h1 : d.canLay0 = true) (h2 : d.depth ≤ k) (hk : k ≤ 64) : SeqAt.shaped d = true := by
  unfold SeqAt.shaped
  rw [h1, decide_eq_true (Nat.le_trans h2 hk)]
  rfl
def rEqS (K : PySem.W.Frag) : R2 := fun x y H Q => ∃ a xs, x = .ref a ∧ y = .ref a ∧ (SqL K H a xs ∨ SqT K H a xs) ∧ Q (.bl true) H
theorem op_eqS (hu : X.A.units < cLine) : OpR X (compareOp .Eq) (rEqS X.K) := by
  intro pins s σ H x y v u Q I rx ry h
  obtain ⟨a, xs, rfl, rfl, h, q⟩ := h
  cases rx
  cases ry
  have fin : ∀ b : Bool, b = true → EP X pins σ Q (.bool b) s := fun b e => by subst e; exact ⟨.bl true, H, I, rfl, q⟩
  rcases h with h | h
  · obtain ⟨its, r, p, _⟩ := I.list h
    refine SeqAt.eq_listAt (e := fun _ => true) p.isList p.isList rfl hu (fun j h1 h2 => SeqAt.EqAt.same _) (fin _ (List.all_eq_true.mpr fun _ _ => rfl))
  · obtain ⟨its, r, p, _⟩ := I.tuple h
    refine SeqAt.eq_tupleAt (e := fun _ => true) (show s.heap.IsTuple a its.toArray from p) (show s.heap.IsTuple a its.toArray from p) hu (fun j h1 h2 => SeqAt.EqAt.same _) (fin _ ?_)
    rw [List.all_eq_true.mpr fun _ _ => rfl, beq_self_eq_true]
    rfl
def rEqA (K : PySem.W.Frag) : R2 := fun x y H Q => rEqD K x y H Q ∨ rEqS K x y H Q
theorem op_eq' (hK : X.K = G.K) (hu : X.A.units + 64 < cLine) : OpR X (compareOp .Eq) (rEqA G.K) := by rw [← hK]; exact (op_eqD hu).or (op_eqS (by omega))
theorem op_ne' (hK : X.K = G.K) (hu : X.A.units + 64 < cLine) : OpR X (compareOp .NotEq) (rNeD G.K) := by rw [← hK]; exact op_neD hu
theorem sim_eqN {neg : Bool} {x y : V} {dx dy : Va} {H F : Hp} {ad : List Addr} {st : Sto} {Q : VK} {Wv : Value → Option Addr → Hp → Prop} (rx : RepV G F ad x dx) (ry : RepV G F ad y dy) (S : SR G H F ad st) (h : Po G Wv H F ad (QV G Q) (oEqN neg dx dy st)) :
    ∃ d e, Dp G.K H x d ∧ Dp G.K H y e ∧ SeqAt.shaped d = true ∧ SeqAt.shaped e = true ∧ Q (.bl (if neg then !PyData.eqv d e else PyData.eqv d e)) H := by
  unfold oEqN at h
  cases z1 : dat? (strip dx) st with
  | none => rw [z1] at h; exact h.elim
  | some a =>
    cases z2 : dat? (strip dy) st with
    | none => rw [z1, z2] at h; exact h.elim
    | some b =>
      rw [z1, z2] at h
      have h : Po G Wv H F ad (QV G Q) (if okd 60 a = true ∧ okd 60 b = true then .ok (.d (.bl (if neg then !D.eqv a b else D.eqv a b))) st else .bad) := h
      split at h
      · rename_i hc
        obtain ⟨a1, a2, a3⟩ := dat?_ok S (strip_ok rx) z1 hc.1
        obtain ⟨b1, b2, b3⟩ := dat?_ok S (strip_ok ry) z2 hc.2
        refine ⟨_, _, a1, b1, shaped_of a2 a3 (by decide), shaped_of b2 b3 (by decide), ?_⟩
        rw [eqv_toP hc.1 hc.2]
        exact fin_same S h _ (.bl _)
      · exact h.elim
theorem sim_eq : SimR2 G (rEqA G.K) oEq := by
  intro Wv x y dx dy H F ad st Q rx ry S h
  unfold oEq at h
  split at h
  · rename_i hs
    cases dx with
    | ref n => simp [sameO] at hs
    | d dx => cases dy with
      | ref n => cases dx <;> simp [sameO] at hs
      | d dy => cases rx with
        | @idn a u r1 => cases ry with
          | @idn b w r2 =>
            have hs : (isSeqD u && decide (a = b)) = true := hs
            obtain ⟨h1, h2⟩ := Bool.and_eq_true_iff.mp hs
            have e : a = b := of_decide_eq_true h2
            subst e
            right
            cases r1 with
            | lst q t => exact ⟨a, _, rfl, rfl, .inl (SqL.of (S.sub _ _ q)), fin_same S h _ (.bl _)⟩
            | tup q t => exact ⟨a, _, rfl, rfl, .inr (sqT_same S.sub q), fin_same S h _ (.bl _)⟩
            | _ => cases h1
          | _ => simp [sameO] at hs
        | _ => simp [sameO] at hs
  · exact .inl (sim_eqN (neg := false) rx ry S h)
theorem sim_ne : SimR2 G (rNeD G.K) oNe := fun Wv x y dx dy H F ad st Q rx ry S h => sim_eqN (neg := true) rx ry S h
/-! is None -/
def isNon : Va → Bool
  | .d .non => true
  | _ => false
def mIsN (a : ME) : ME := fun ρ st => (a ρ st).bind fun x st => .ok (.d (.bl (isNon x))) st
def mNotN (a : ME) : ME := fun ρ st => (a ρ st).bind fun x st => .ok (.d (.bl (!isNon x))) st
theorem isNon_ok {F : Hp} {ad : List Addr} {v : V} {x : Va} (r : RepV G F ad v x) : decide (v = .non) = isNon x := by
  cases x with
  | ref n => obtain ⟨a, _, rfl⟩ := r; rfl
  | d x => cases r <;> rfl
theorem de_isN {a : Expr} {j p pos : _} {ma : ME} (ha : DE G W X a ma) : DE G W X (.Compare a [.Is] [.Constant .none j p] pos) (mIsN ma) := by
  obtain ⟨ta, pa, sa⟩ := ha
  refine ⟨_, pe_cmpR op_isN pa pe_non (nomark _), ?_⟩
  intro σ ρ H F ad st Q R S h
  refine simE_bind sa R S h fun x v st1 H1 F1 ad1 _ R1 S1 rv h1 => ⟨rfl, ?_⟩
  rw [isNon_ok rv]
  exact fin_same S1 h1 _ (.bl _)
theorem de_notN {a : Expr} {j p pos : _} {ma : ME} (ha : DE G W X a ma) : DE G W X (.Compare a [.IsNot] [.Constant .none j p] pos) (mNotN ma) := by
  obtain ⟨ta, pa, sa⟩ := ha
  refine ⟨_, pe_cmpR op_notN pa pe_non (nomark _), ?_⟩
  intro σ ρ H F ad st Q R S h
  refine simE_bind sa R S h fun x v st1 H1 F1 ad1 _ R1 S1 rv h1 => ⟨rfl, ?_⟩
  rw [isNon_ok rv]
  exact fin_same S1 h1 _ (.bl _)
theorem dt_isN {a : Expr} {j p pos : _} {ma : ME} (ha : DE G W X a ma) : DT G W X (.Compare a [.Is] [.Constant .none j p] pos) (mTst (mIsN ma)) := by
  obtain ⟨ta, pa, sa⟩ := ha
  refine ⟨_, pt_cmpR op_isN pa pe_non (nomark _), ?_⟩
  refine sim_tst ?_
  intro σ ρ H F ad st Q R S h
  refine simE_bind sa R S h fun x v st1 H1 F1 ad1 _ R1 S1 rv h1 => ⟨rfl, ?_⟩
  rw [isNon_ok rv]
  exact fin_same S1 h1 _ (.bl _)
theorem dt_notN {a : Expr} {j p pos : _} {ma : ME} (ha : DE G W X a ma) : DT G W X (.Compare a [.IsNot] [.Constant .none j p] pos) (mTst (mNotN ma)) := by
  obtain ⟨ta, pa, sa⟩ := ha
  refine ⟨_, pt_cmpR op_notN pa pe_non (nomark _), ?_⟩
  refine sim_tst ?_
  intro σ ρ H F ad st Q R S h
  refine simE_bind sa R S h fun x v st1 H1 F1 ad1 _ R1 S1 rv h1 => ⟨rfl, ?_⟩
  rw [isNon_ok rv]
  exact fin_same S1 h1 _ (.bl _)
/-! x in a list, a tuple of flat things -/
def flatD : D → Bool
  | .non => true
  | .bl _ => true
  | .int _ => true
  | .str _ => true
  | _ => false
def oInN (neg : Bool) : O2 := fun x y st => match x, itemsOf y st with
  | .d a, some ys => (match ds? ys with
    | some ds => if flatD a = true ∧ ds.all flatD = true then .ok (.d (.bl (if neg then !ds.any (fun d => D.eqv d a) else ds.any (fun d => D.eqv d a)))) st else .bad
    | none => .bad)
  | _, _ => .bad
theorem flat_ok {F : Hp} {v : V} {x : D} (r : Rep G F v x) : flatV v = flatD x := by cases r <;> rfl
theorem flats_ok {F : Hp} : ∀ {vs : List V} {ds : List D}, Reps G F vs ds → vs.all flatV = ds.all flatD
  | _, _, .nil => rfl
  | _, _, .cons r t => by rw [List.all_cons, List.all_cons, flat_ok r, flats_ok t]
theorem eqV_ok {F : Hp} {v w : V} {x y : D} (r : Rep G F v x) (r2 : Rep G F w y) (h : flatD x = true) (h2 : flatD y = true) : eqV v w = D.eqv x y := by
  cases r <;> first | (simp [flatD] at h; done) | skip
  all_goals (cases r2 <;> first | (simp [flatD] at h2; done) | simp [eqV, D.eqv])
theorem any_ok {F : Hp} {w : V} {y : D} (r2 : Rep G F w y) (h2 : flatD y = true) : ∀ {vs : List V} {ds : List D}, Reps G F vs ds → ds.all flatD = true → inV w vs = ds.any fun d => D.eqv d y
  | _, _, .nil, _ => rfl
  | _, _, @Reps.cons _ _ v d vs ds r t, h => by
    obtain ⟨h3, h4⟩ := Bool.and_eq_true_iff.mp (show (flatD d && ds.all flatD) = true from h)
    have e := any_ok r2 h2 t h4
    unfold inV at e ⊢
    rw [List.any_cons, List.any_cons, eqV_ok r r2 h3 h2, e]
theorem op_in' (hK : X.K = G.K) : OpR X (compareOp .In) (rIn G.K false) := by rw [← hK]; exact op_in_seq
theorem op_notIn' (hK : X.K = G.K) : OpR X (compareOp .NotIn) (rIn G.K true) := by rw [← hK]; exact op_notIn_seq
theorem sim_inN {neg : Bool} : SimR2 G (rIn G.K neg) (oInN neg) := by
  intro Wv x y dx dy H F ad st Q rx ry S h
  cases dx with
  | ref n => exact h.elim
  | d a =>
    have h : Po G Wv H F ad (QV G Q) (match itemsOf dy st with
      | some ys => (match ds? ys with
        | some ds => if flatD a = true ∧ ds.all flatD = true then .ok (.d (.bl (if neg then !ds.any (fun d => D.eqv d a) else ds.any (fun d => D.eqv d a)))) st else .bad
        | none => .bad)
      | _ => .bad) := by
      unfold oInN at h
      split at h
      · rename_i ys e1 e2
        cases e1
        rw [e2]
        exact h
      · exact h.elim
    cases z : itemsOf dy st with
    | none => rw [z] at h; exact h.elim
    | some ys =>
      rw [z] at h
      have h : Po G Wv H F ad (QV G Q) (match ds? ys with
        | some ds => if flatD a = true ∧ ds.all flatD = true then .ok (.d (.bl (if neg then !ds.any (fun d => D.eqv d a) else ds.any (fun d => D.eqv d a)))) st else .bad
        | none => .bad) := h
      cases zz : ds? ys with
      | none => rw [zz] at h; exact h.elim
      | some ds =>
        rw [zz] at h
        have h : Po G Wv H F ad (QV G Q) (if flatD a = true ∧ ds.all flatD = true then .ok (.d (.bl (if neg then !ds.any (fun d => D.eqv d a) else ds.any (fun d => D.eqv d a)))) st else .bad) := h
        split at h
        · rename_i hc
          obtain ⟨p, vs, rfl, hq, rv⟩ := itemsOf_ok S ry z
          have t := repVs_ds rv zz
          refine ⟨p, vs, rfl, hq, by rw [flat_ok rx]; exact hc.1, by rw [flats_ok t]; exact hc.2, ?_⟩
          rw [any_ok rx hc.1 t hc.2]
          exact fin_same S h _ (.bl _)
        · exact h.elim
def oIn : O2 := oInN false
def oNotIn : O2 := oInN true
end

/-! ### calls of defs -/
section
variable {X : Cx} {CX : CXT} {k : Nat} {f C : Addr} {fd : FuncData} {ps : List Str} {sp : Sp} {dvs : List V} {ds : List Value} {E : L2.St → XK} {x m : Str} {p pos apos : Pos} {e o : Expr} {es : List Expr} {ta : TE} {t : TA}
theorem pe_callSD0 (F : FnOk X.prog X.w X.K X.mg X.base CX k f fd ps sp) (hr : Room k X.A) (hg : Gl X x) (hm : X.mg x = some (.ref f)) (hk : PySem.W.keepIn X.K (.ref f) = true) (hb : Binds X.K fd ps ds) (hd : Vals dvs ds) (hx : ∀ σ, PassesAt CX X σ (E σ))
    (hdb : (x == ("__debug__" : Str)) = false := by decide) : PE X (.Call (.Name x p) [] [] pos) (tCallSD sp dvs E tNil) := by
  refine ⟨fun pins s σ H Q I h => ?_⟩
  refine wpAny_Call_Name_kw (ld_glob I hg hm ?_ hdb)
  exact PySem.W.callWith_K0 I.kIn hk (run_fnSD (us := []) F hr hb hd (hx σ) I .nil h)
def tMethS (C : Addr) (m : Str) (sp : Sp) (dvs : List V) (E : L2.St → XK) (ta : TE) (t : TA) : TE := fun σ H Q => ta σ H fun x H1 => ∃ a dx fs, x = .ref a ∧ H1 a = some (.ins C dx fs) ∧ fs.lookup m = none ∧
  t σ H1 fun vs H2 => sp (x :: (vs ++ dvs)) H2 Q (E σ)
theorem pe_methSD {pl : Sem Bool} (he : PE X o ta) (c : Cls X.K C) (hm : Meth X.K C m f) (F : FnOk X.prog X.w X.K X.mg X.base CX k f fd ps sp) (hr : Room k X.A) (hb : Binds X.K fd ps ds) (hd : Vals dvs ds) (hx : ∀ σ, PassesAt CX X σ (E σ)) (ha : PA X (e :: es) t)
    (hst : starEach (e :: es) X.env = (false, eval e X.env) :: starEach es X.env := by rfl) (hpl : (backTo pos (starEach es X.env)).any (·.1) = false := by rfl)
    (ht : eval (.Call (.Attribute o m apos) (e :: es) [] pos) X.env = (do
      let ov ← eval o X.env
      standAt apos.atName
      let (f, first) ← holding [ov] (getMethod ov m pl)
      callWith pos f first (backTo pos (starEach (e :: es) X.env)) (backToKw pos (keywordEach [] X.env))) := by rfl) :
    PE X (.Call (.Attribute o m apos) (e :: es) [] pos) (tMethS C m sp dvs E ta t) := by
  refine ⟨fun pins s σ H Q I h => ?_⟩
  refine PySem.W.methodCall_KW (pl := pl) (thn (he.run pins s σ H _ I h) fun u s1 ⟨x, H1, I1, rx, a, dx, fs, ex, ea, l, q⟩ => ?_) ht
  subst ex
  obtain rfl : u = Value.ref a := rx
  refine getmeth_ok I1 ea c hm l ?_
  refine PySem.W.callWith_K (first := [.ref a]) (h₀ := X.base) I.ok.mod.kin hm.kp (thn (ha.run pos pins s1 σ H1 _ I1 q) fun us s2 ⟨vs, H2, I2, r, q2⟩ => ⟨I2.kIn, ?_⟩) hst hpl
  exact run_fnSD (us := .ref a :: us) (vs := .ref a :: vs) F hr hb hd (hx σ) I2 (.cons rfl r) q2
theorem pe_methSD0 {pl : Sem Bool} (he : PE X o ta) (c : Cls X.K C) (hm : Meth X.K C m f) (F : FnOk X.prog X.w X.K X.mg X.base CX k f fd ps sp) (hr : Room k X.A) (hb : Binds X.K fd ps ds) (hd : Vals dvs ds) (hx : ∀ σ, PassesAt CX X σ (E σ))
    (ht : eval (.Call (.Attribute o m apos) [] [] pos) X.env = (do
      let ov ← eval o X.env
      standAt apos.atName
      let (f, first) ← holding [ov] (getMethod ov m pl)
      callWith pos f first (backTo pos (starEach [] X.env)) (backToKw pos (keywordEach [] X.env))) := by rfl) :
    PE X (.Call (.Attribute o m apos) [] [] pos) (tMethS C m sp dvs E ta tNil) := by
  refine ⟨fun pins s σ H Q I h => ?_⟩
  refine PySem.W.methodCall_KW (pl := pl) (thn (he.run pins s σ H _ I h) fun u s1 ⟨x, H1, I1, rx, a, dx, fs, ex, ea, l, q⟩ => ?_) ht
  subst ex
  obtain rfl : u = Value.ref a := rx
  refine getmeth_ok I1 ea c hm l ?_
  exact PySem.W.callWith_K0 (first := [.ref a]) I1.kIn hm.kp (run_fnSD (us := [.ref a]) (vs := [.ref a]) F hr hb hd (hx σ) I1 (.cons rfl .nil) q)
def tMakeS (C : Addr) (sp : Sp) (dvs : List V) (E : L2.St → XK) (t : TA) : TE := fun σ H Q => t σ H fun vs H1 => ∀ x dx, H1 x = none → H1 dx = none → dx ≠ x →
  sp (.ref x :: (vs ++ dvs)) (upd (upd H1 dx (.own x)) x (.ins C dx [])) (fun v H2 => v = .non ∧ Q (.ref x) H2) (E σ)
theorem run_makeS {pins : List (Addr × Obj)} {σ : L2.St} {H : Hp} {s : Shared} {Q : VK} {us : List Value} {vs : List V} (M : Mk X.K C f) (F : FnOk X.prog X.w X.K X.mg X.base CX k f fd ps sp) (hr : Room (k + 1) X.A) (hb : Binds X.K fd ps ds) (hd : Vals dvs ds)
    (hx : PassesAt CX X σ (E σ)) (I : Inv X pins σ H s) (r : Vals vs us)
    (h : ∀ x dx, H x = none → H dx = none → dx ≠ x → sp (.ref x :: (vs ++ dvs)) (upd (upd H dx (.own x)) x (.ins C dx [])) (fun v H2 => v = .non ∧ Q (.ref x) H2) (E σ)) :
    wpAny (model X.prog X.w) X.A (call (.ref C) us) (EP X pins σ Q) X.xe s := by
  have hq := h (s.heap.objs.size + 1) s.heap.objs.size (I.hok.fresh (Nat.le_succ _)) (I.hok.fresh (Nat.le_refl _)) (Nat.ne_of_lt (Nat.lt_succ_self _))
  have I2 := Inv.made (C := C) I
  have r2 : Vals (V.ref (s.heap.objs.size + 1) :: (vs ++ dvs)) (Value.ref (s.heap.objs.size + 1) :: (us ++ ds)) := .cons rfl (r.append hd)
  have hl : (Value.ref (s.heap.objs.size + 1) :: us ++ ds).length = ps.length := by
    have e := r2.length
    rw [F.len _ _ _ _ hq] at e
    exact e.symm
  refine wpAny_call (make_map (f := f) I.kIn M.makes M.init (beq_iff_eq.mp M.fn) (codeAny_mono (F.run _ X.stack _ _ ⟨Value.ref (s.heap.objs.size + 1) :: us, []⟩ (Value.ref (s.heap.objs.size + 1) :: (us ++ ds)) _ _ (E σ) (hr.make C us [])
    (I2.env0.make C us []) (hb _ (Value.ref (s.heap.objs.size + 1) :: us) I2.kIn hl) r2 hq) fun r s' hq' => ?_))
  cases r with
  | error e => exact hx pins _ _ e s' I2 hq'
  | ok fl =>
    cases fl with
    | ret u =>
      obtain ⟨v, H', I3, rv, ev, q3⟩ := I2.after hq'
      subst ev
      exact ⟨rv, ⟨V.ref (s.heap.objs.size + 1), H', I3, rfl, q3⟩⟩
    | next => exact False.elim hq'
    | brk => exact False.elim hq'
    | cont => exact False.elim hq'
theorem pe_makeSD (M : Mk X.K C f) (F : FnOk X.prog X.w X.K X.mg X.base CX k f fd ps sp) (hr : Room (k + 1) X.A) (hg : Gl X x) (hm : X.mg x = some (.ref C)) (hb : Binds X.K fd ps ds) (hd : Vals dvs ds) (hx : ∀ σ, PassesAt CX X σ (E σ))
    (ha : PA X (e :: es) t) (hdb : (x == ("__debug__" : Str)) = false := by decide) (he : starEach (e :: es) X.env = (false, eval e X.env) :: starEach es X.env := by rfl) (hpl : (backTo pos (starEach es X.env)).any (·.1) = false := by rfl) :
    PE X (.Call (.Name x p) (e :: es) [] pos) (tMakeS C sp dvs E t) := by
  refine ⟨fun pins s σ H Q I h => ?_⟩
  refine wpAny_Call_Name_kw (ld_glob I hg hm ?_ hdb)
  refine PySem.W.callWith_K (h₀ := X.base) I.ok.mod.kin M.kp (thn (ha.run pos pins s σ H _ I h) fun us s1 ⟨vs, H1, I1, r, q⟩ => ⟨I1.kIn, ?_⟩) he hpl
  exact run_makeS M F hr hb hd (hx σ) I1 r q
theorem pe_makeSD0 (M : Mk X.K C f) (F : FnOk X.prog X.w X.K X.mg X.base CX k f fd ps sp) (hr : Room (k + 1) X.A) (hg : Gl X x) (hm : X.mg x = some (.ref C)) (hb : Binds X.K fd ps ds) (hd : Vals dvs ds) (hx : ∀ σ, PassesAt CX X σ (E σ))
    (hdb : (x == ("__debug__" : Str)) = false := by decide) : PE X (.Call (.Name x p) [] [] pos) (tMakeS C sp dvs E tNil) := by
  refine ⟨fun pins s σ H Q I h => ?_⟩
  refine wpAny_Call_Name_kw (ld_glob I hg hm ?_ hdb)
  exact PySem.W.callWith_K0 I.kIn M.kp (run_makeS (us := []) M F hr hb hd (hx σ) I .nil h)
end
section
variable {G : Ga} {W : L2.WX} {X : Cx}
/-- the promise of a def by its mirror -/
def spM (G : Ga) (m : MF) : Sp := fun vs H Q E => ∃ F ad st ds, SR G H F ad st ∧ RepVs G F ad vs ds ∧ Po G E H F ad (QV G Q) (m ds st)
def mFun (n ns : Nat) (b : MS) : MF := fun ds st => if ds.length = n then (match b (ds.map some ++ List.replicate (ns - n) none) st with
  | .nx _ st => .ok (.d .non) st
  | .rt v st => .ok v st
  | .er c fs _ st => .er c fs st
  | _ => .bad) else .bad
theorem spM_len {n ns : Nat} {b : MS} {vs : List V} {H : Hp} {Q : VK} {E : XK} (h : spM G (mFun n ns b) vs H Q E) : vs.length = n := by
  obtain ⟨F, ad, st, ds, _, r, h⟩ := h
  unfold mFun at h
  split at h
  · rename_i e
    rw [Paired.length r]
    exact e
  · exact h.elim
theorem start_rel {F : Hp} {ad : List Addr} {N : List Str} {vs : List V} {ds : List Va} {n : Nat} (hj : ∀ F ad σ, G.jv F ad σ) (r : RepVs G F ad vs ds) (hn : ds.length = n) : RelE G F ad (L2.start N vs) (ds.map some ++ List.replicate (N.length - n) none) := by
  have hl := Paired.length r
  refine ⟨by unfold L2.start; simp [hl, hn], fun i d e => ?_, hj _ _ _⟩
  by_cases hi : i < ds.length
  · rw [List.getElem?_append_left (by rw [List.length_map]; exact hi), List.getElem?_map] at e
    cases z : ds[i]? with
    | none => rw [z] at e; cases e
    | some u =>
      rw [z] at e
      have : u = d := by simpa using e
      subst this
      obtain ⟨v, h1, h2⟩ := Paired.getR r i u z
      refine ⟨v, ?_, h2⟩
      unfold L2.start
      rw [List.getElem?_append_left (by rw [List.length_map, hl]; exact hi), List.getElem?_map, h1]
      rfl
  · rw [List.getElem?_append_right (by rw [List.length_map]; omega)] at e
    have := List.mem_of_getElem? e
    rw [List.mem_replicate] at this
    cases this.2
/-- THE RULE for a def -/
theorem fn_m {P : Program} {w : World} {mg : Str → Option Value} {base : Heap} {x qual : Str} {params : Arguments} {body : List Stmt} {scope : Scope} {dvs : List V} {kws : List (Str × V)} {f : Addr} {fd : FuncData} {N ps : List Str} {k n : Nat} {b : MS} {K : PySem.W.Frag} (F : FunD K x qual params body scope dvs kws f fd) (S : FnScope N ps scope) (hn : ps.length = n) (hj : ∀ F ad σ, G.jv F ad σ)
    (hb : ∀ (cdv : Value) (A : Around) (outer : List Env) (s : Shared) (H : Hp) (E : XK), Room k (A.deeper (PyProof.Rows.envOfC qual scope s.heap.objs.size f cdv)) →
      DSs G (fun cls d _ H' => E cls d H') (cxOf (L2.CX P w) P w K mg base N qual scope f cdv A outer s H E) body b) : FnOk P w K mg base (L2.CX P w) (k + 1) f fd ps (spM G (mFun n N.length b)) := by
  refine F.ok S (fun vs H Q E h => by rw [hn]; exact spM_len h) fun cdv A outer s H vs Q E hr h => ?_
  obtain ⟨t, p, z⟩ := hb cdv A outer s H E hr
  refine ⟨t, p, ?_⟩
  obtain ⟨F0, ad, st, ds, S0, r, h⟩ := h
  unfold mFun at h
  split at h
  · rename_i hl
    refine z _ _ H F0 ad st _ (start_rel hj r hl) S0 ?_
    revert h
    generalize b (ds.map some ++ List.replicate (N.length - n) none) st = o
    intro h
    cases o with
    | nx ρ st1 => exact fun H' F' ad' σ' e S' R' => h H' F' ad' e S' _ .non
    | rt v st1 => exact fun H' F' ad' v' e S' R' => h H' F' ad' e S' _ R'
    | er c fs ρ st1 => exact fun H' F' ad' σ' cls d e S' R' z => h H' F' ad' cls d e S' z
    | bk ρ st1 => exact h.elim
    | ct ρ st1 => exact h.elim
    | bad => exact h.elim
  · exact h.elim
/-! what leaves a call of a def that knows nothing of our cells -/
def mapO {α β : Type} (f : α → Option β) : List α → Option (List β)
  | [] => some []
  | x :: xs => match f x, mapO f xs with
    | some y, some ys => some (y :: ys)
    | _, _ => none
def rsv (st : Sto) : Nat → Va → Option D
  | _, .d x => some x
  | 0, .ref _ => none
  | k + 1, .ref n => match st[n]? with
    | some (.lst xs) => (mapO (rsv st k) xs).map D.lst
    | some (.obj c fs) => (mapO (fun p => (rsv st k p.2).map fun y => (p.1, y)) fs).map (D.obj c)
    | some (.dct fs) => (mapO (fun p => (rsv st k p.2).map fun y => (p.1, y)) fs).map D.dct
    | some (.dcn fs) => (mapO (fun p => (rsv st k p.2).map fun y => (p.1, y)) fs).map D.dcn
    | none => none
@[simp] theorem rsv_d {st : Sto} {k : Nat} {x : D} : rsv st k (.d x) = some x := by cases k <;> rfl
def rsvF (st : Sto) (k : Nat) (fs : List (String × Va)) : Option (List (String × Va)) := mapO (fun p => (rsv st k p.2).map fun y => (p.1, Va.d y)) fs
/-- cells become frozen -/
def frzA (H F : Hp) (ad : List Addr) : Hp := fun b => if b ∈ ad then H b else F b
theorem mapO_ok {α β γ : Type} {f : α → Option β} {R : γ → α → Prop} {R' : γ → β → Prop} (h : ∀ c a b, R c a → f a = some b → R' c b) : ∀ {cs : List γ} {xs : List α} {ys : List β}, Paired R cs xs → mapO f xs = some ys → Paired R' cs ys
  | _, _, _, .nil, e => by cases e; exact .nil
  | _, _, ys, @Paired.cons _ _ _ c a _ xs r t, e => by
    have e : (match f a, mapO f xs with
      | some y, some ys => some (y :: ys)
      | _, _ => none) = some ys := e
    cases z : f a with
    | none => rw [z] at e; cases e
    | some y =>
      cases zz : mapO f xs with
      | none => rw [z, zz] at e; cases e
      | some zs =>
        rw [z, zz] at e
        cases e
        exact .cons (h _ _ _ r z) (mapO_ok h t zz)
theorem paired_reps {F : Hp} : ∀ {vs : List V} {ds : List D}, Paired (Rep G F) vs ds → Reps G F vs ds
  | _, _, .nil => .nil
  | _, _, .cons r t => .cons r (paired_reps t)
theorem paired_repf {F : Hp} : ∀ {vs : List (Str × V)} {ds : List (String × D)}, Paired (fun p q => p.1 = Str.ofString q.1 ∧ Rep G F p.2 q.2) vs ds → Repf G F vs ds
  | _, _, .nil => .nil
  | _, _, @Paired.cons _ _ _ (_, _) (_, _) _ _ ⟨e, r⟩ t => by
    cases e
    exact .cons r (paired_repf t)
theorem paired_repk {F : Hp} : ∀ {vs : List (Key × V)} {ds : List (D × D)}, Paired (fun p q => kD p.1 = q.1 ∧ Rep G F p.2 q.2) vs ds → Repk G F vs ds
  | _, _, .nil => .nil
  | _, _, @Paired.cons _ _ _ (_, _) (_, _) _ _ ⟨e, r⟩ t => by
    cases e
    exact .cons r (paired_repk t)
theorem paired_repn {F : Hp} : ∀ {vs : List (NestedKey × Addr × V)} {ds : List (D × D)}, Paired (fun p q => Rep G F (.ref p.2.1) q.1 ∧ nkD q.1 = some p.1 ∧ Rep G F p.2.2 q.2) vs ds → Repn G F vs ds
  | _, _, .nil => .nil
  | _, _, @Paired.cons _ _ _ (_, _, _) (_, _) _ _ ⟨e, k, r⟩ t => .cons e k r (paired_repn t)
theorem frzA_same {H F : Hp} {ad : List Addr} {st : Sto} (S : SR G H F ad st) : Same F (frzA H F ad) := fun b o h => by
  unfold frzA
  rw [if_neg (fun z => by rw [S.dis b z] at h; cases h)]
  exact h
theorem frzA_sub {H F : Hp} {ad : List Addr} {st : Sto} (S : SR G H F ad st) : Same (frzA H F ad) H := fun b o h => by
  unfold frzA at h
  split at h
  · exact h
  · exact S.sub b o h
theorem rsv_ok {H F : Hp} {ad : List Addr} {st : Sto} (S : SR G H F ad st) : ∀ {k : Nat} {v : V} {x : Va} {y : D}, RepV G F ad v x → rsv st k x = some y → Rep G (frzA H F ad) v y
  | k, v, .d x, y, r, e => by
    rw [rsv_d] at e
    cases e
    exact Rep.same (frzA_same S) r
  | 0, v, .ref n, y, r, e => by cases e
  | k + 1, v, .ref n, y, r, e => by
    obtain ⟨a, ha, rfl⟩ := r
    have e : (match st[n]? with
      | some (.lst xs) => (mapO (rsv st k) xs).map D.lst
      | some (.obj c fs) => (mapO (fun p => (rsv st k p.2).map fun y => (p.1, y)) fs).map (D.obj c)
      | some (.dct fs) => (mapO (fun p => (rsv st k p.2).map fun y => (p.1, y)) fs).map D.dct
      | some (.dcn fs) => (mapO (fun p => (rsv st k p.2).map fun y => (p.1, y)) fs).map D.dcn
      | none => none) = some y := e
    have hm : frzA H F ad a = H a := if_pos (List.mem_of_getElem? ha)
    cases z : st[n]? with
    | none => rw [z] at e; cases e
    | some o =>
      rw [z] at e
      cases o with
      | lst xs =>
        have e : (mapO (rsv st k) xs).map D.lst = some y := e
        obtain ⟨vs, h1, h2⟩ := S.get ha z
        cases zz : mapO (rsv st k) xs with
        | none => rw [zz] at e; cases e
        | some ys =>
          rw [zz] at e
          cases e
          exact .lst (by rw [hm]; exact h1) (paired_reps (mapO_ok (f := rsv st k) (R' := Rep G (frzA H F ad)) (fun c a b r e => rsv_ok S r e) h2 zz))
      | obj c fs =>
        have e : (mapO (fun p => (rsv st k p.2).map fun y => (p.1, y)) fs).map (D.obj c) = some y := e
        obtain ⟨hc, dx, vfs, h1, h2⟩ := S.get ha z
        cases zz : mapO (fun p => (rsv st k p.2).map fun y => (p.1, y)) fs with
        | none => rw [zz] at e; cases e
        | some ys =>
          rw [zz] at e
          cases e
          refine .obj hc (by rw [hm]; exact h1) (paired_repf (mapO_ok (fun c a b r e => ?_) h2 zz))
          cases z3 : rsv st k a.2 with
          | none => rw [z3] at e; cases e
          | some y =>
            rw [z3] at e
            cases e
            exact ⟨r.1, rsv_ok S r.2 z3⟩
      | dct fs =>
        have e : (mapO (fun p => (rsv st k p.2).map fun y => (p.1, y)) fs).map D.dct = some y := e
        obtain ⟨vfs, h1, h2⟩ := S.get ha z
        cases zz : mapO (fun p => (rsv st k p.2).map fun y => (p.1, y)) fs with
        | none => rw [zz] at e; cases e
        | some ys =>
          rw [zz] at e
          cases e
          refine .dct (by rw [hm]; exact h1) (paired_repk (mapO_ok (fun c a b r e => ?_) h2 zz))
          cases z3 : rsv st k a.2 with
          | none => rw [z3] at e; cases e
          | some y =>
            rw [z3] at e
            cases e
            exact ⟨r.1, rsv_ok S r.2 z3⟩
      | dcn fs =>
        have e : (mapO (fun p => (rsv st k p.2).map fun y => (p.1, y)) fs).map D.dcn = some y := e
        obtain ⟨vfs, h1, h2⟩ := S.get ha z
        cases zz : mapO (fun p => (rsv st k p.2).map fun y => (p.1, y)) fs with
        | none => rw [zz] at e; cases e
        | some ys =>
          rw [zz] at e
          cases e
          refine .dcn (by rw [hm]; exact h1) (paired_repn (mapO_ok (fun c a b r e => ?_) h2 zz))
          cases z3 : rsv st k a.2 with
          | none => rw [z3] at e; cases e
          | some y =>
            rw [z3] at e
            cases e
            exact ⟨Rep.same (frzA_same S) r.1, r.2.1, rsv_ok S r.2.2 z3⟩
/-- the caller's things behind such a call -/
theorem SR.behind {H F H1 F1 : Hp} {ad ad1 : List Addr} {st st1 : Sto} (S : SR G H F ad st) (E : Ext H F [] H1 F1 ad1) (S1 : SR G H1 F1 ad1 st1) : SR G H1 (frzA H1 F1 ad1) ad st ∧ Ext H F ad H1 (frzA H1 F1 ad1) ad := by
  have kp : ∀ b o, H b = some o → H1 b = some o := fun b o h => E.kp b o (by simp) h
  have nin : ∀ a ∈ ad, a ∉ ad1 := fun a h z => by
    obtain ⟨u, hu⟩ := S.there h
    rcases E.na a z with z | z
    · simp at z
    · rw [hu] at z; cases z
  have dis : ∀ a ∈ ad, frzA H1 F1 ad1 a = none := fun a h => by
    unfold frzA
    rw [if_neg (nin a h)]
    cases z : F1 a with
    | none => rfl
    | some o =>
      obtain ⟨u, hu⟩ := S.there h
      rcases E.nw a o z with z | z
      · rw [S.dis a h] at z; cases z
      · rw [hu] at z; cases z
  have E2 : Ext H F ad H1 (frzA H1 F1 ad1) ad := by
    refine ⟨⟨[], (List.append_nil _).symm⟩, E.fz.trans (frzA_same S1), fun b o _ h => kp b o h, E.dm, fun b o h => ?_, fun b h => .inl h⟩
    unfold frzA at h
    split at h
    · rename_i hb
      rcases E.na b hb with z | z
      · simp at z
      · exact .inr z
    · exact E.nw b o h
  refine ⟨⟨frzA_sub S1, S.len, S.nd, dis, fun n a o h ho => ?_⟩, E2⟩
  have hz := S.ob n a o h ho
  obtain ⟨u, hu⟩ := hz.there
  exact hz.mono E2 (by rw [hu]; exact kp a u hu)
def pureF (f : MF) : MF := fun ds st => match ds? ds with
  | some _ => (match f ds [] with
    | .ok v st1 => (match rsv st1 (st1.length + 1) v with
      | some x => .ok (.d x) st
      | none => .bad)
    | .er c fs st1 => (match rsvF st1 (st1.length + 1) fs with
      | some gs => .er c gs st
      | none => .bad)
    | .bad => .bad)
  | none => .bad
theorem err_behind {H F : Hp} {ad ad0 : List Addr} {st : Sto} (S : SR G H F ad st) {k : Nat} {c : String} {fs gs : List (String × Va)} {cls : Value} {d : Option Addr} (e : rsvF st k fs = some gs) (h : ErrR G F ad c fs cls d) : ErrR G (frzA H F ad) ad0 c gs cls d := by
  obtain ⟨h0, h1, h2⟩ := h
  refine ⟨h0, h1, ?_⟩
  rcases h2 with ⟨rfl, rfl⟩ | ⟨dx, vfs, rfl, hx, r⟩
  · cases e
    exact .inl ⟨rfl, rfl⟩
  · refine .inr ⟨dx, vfs, rfl, frzA_same S _ _ hx, mapO_ok (fun c a b r e => ?_) r e⟩
    cases z3 : rsv st k a.2 with
    | none => rw [z3] at e; cases e
    | some y =>
      rw [z3] at e
      cases e
      exact ⟨r.1, rsv_ok S r.2 z3⟩
theorem SR.none_ {H F : Hp} {ad : List Addr} {st : Sto} (S : SR G H F ad st) : SR G H F [] [] := ⟨S.sub, rfl, List.nodup_nil, fun _ h => (by simp at h), fun n a o h _ => (by simp at h)⟩
theorem spM_pure {f : MF} {H F : Hp} {ad : List Addr} {st : Sto} {vs : List V} {ds : List Va} {Q : VK} {E : XK} (S : SR G H F ad st) (r : RepVs G F ad vs ds) (h : Po G E H F ad (QV G Q) (pureF f ds st)) : spM G f vs H Q E := by
  unfold pureF at h
  cases z : ds? ds with
  | none => rw [z] at h; exact h.elim
  | some es =>
    rw [z] at h
    refine ⟨F, [], [], ds, S.none_, ?_, ?_⟩
    · rw [ds?_ok z] at r ⊢
      exact (Reps.of r).va
    · revert h
      generalize f ds [] = o
      intro h
      cases o with
      | bad => exact h
      | ok v st1 =>
        intro H1 F1 ad1 E1 S1 w rw
        have h : Po G E H F ad (QV G Q) (match rsv st1 (st1.length + 1) v with
          | some x => .ok (.d x) st
          | none => .bad) := h
        cases zz : rsv st1 (st1.length + 1) v with
        | none => rw [zz] at h; exact h.elim
        | some x =>
          rw [zz] at h
          obtain ⟨S2, E2⟩ := S.behind E1 S1
          exact h _ _ _ E2 S2 w (rsv_ok S1 rw zz)
      | er c fs st1 =>
        intro H1 F1 ad1 cls d E1 S1 er
        have h : Po G E H F ad (QV G Q) (match rsvF st1 (st1.length + 1) fs with
          | some gs => .er c gs st
          | none => .bad) := h
        cases zz : rsvF st1 (st1.length + 1) fs with
        | none => rw [zz] at h; exact h.elim
        | some gs =>
          rw [zz] at h
          obtain ⟨S2, E2⟩ := S.behind E1 S1
          exact h _ _ _ cls d E2 S2 (err_behind S1 zz er)
def mCall (f : MF) (m : MA) : ME := fun ρ st => (m ρ st).bind f
abbrev mPure (f : MF) (m : MA) : ME := mCall (pureF f) m
/-- defaults: what stands for them -/
def DflR (G : Ga) (dvs : List V) (es : List D) : Prop := ∀ F, Reps G F dvs es
theorem dfl_nil : DflR G [] [] := fun _ => .nil
theorem sim_call {f : MF} {g : MF} {t : TA} {m : MA} {dvs : List V} {es : List D} (hd : DflR G dvs es) (hg : (∀ ds st, g ds st = f (ds ++ es.map Va.d) st) ∨ (∀ ds st, g ds st = pureF f (ds ++ es.map Va.d) st)) (s : SimA G W t m) : SimE G W (tCallSD (spM G f) dvs (WE W) t) (mCall g m) := by
  intro σ ρ H F ad st Q R S h
  refine simA_bind s R S h fun xs vs st1 H1 F1 ad1 _ R1 S1 rvs h1 => ?_
  have rv : RepVs G F1 ad1 (vs ++ dvs) (xs ++ es.map Va.d) := Paired.append rvs (hd F1).va
  rcases hg with hg | hg
  · rw [hg] at h1
    exact ⟨F1, ad1, st1, _, S1, rv, h1⟩
  · rw [hg] at h1
    exact spM_pure S1 rv h1
/-- with defaults put behind -/
def withD (es : List D) (f : MF) : MF := fun ds st => f (ds ++ es.map Va.d) st
section
variable {k : Nat} {fa : Addr} {fd : FuncData} {ps : List Str} {f : MF} {dvs : List V} {ds : List Value} {es : List D} {x : Str} {e : Expr} {ee : List Expr} {p pos : Pos} {m : MA}
theorem de_call (F : FnOk X.prog X.w X.K X.mg X.base (L2.CX X.prog X.w) k fa fd ps (spM G f)) (hr : Room k X.A) (hg : Gl X x) (hm : X.mg x = some (.ref fa)) (hk : PySem.W.keepIn X.K (.ref fa) = true) (hb : Binds X.K fd ps []) (tk : Takes X W)
    (ha : DA G W X (e :: ee) m) (hdb : (x == ("__debug__" : Str)) = false := by decide) (he : starEach (e :: ee) X.env = (false, eval e X.env) :: starEach ee X.env := by rfl) (hpl : (backTo pos (starEach ee X.env)).any (·.1) = false := by rfl) : DE G W X (.Call (.Name x p) (e :: ee) [] pos) (mCall f m) := by
  obtain ⟨t, pt, st⟩ := ha
  exact ⟨_, pe_callSD F hr hg hm hk hb .nil (passAt tk) pt hdb he hpl, sim_call dfl_nil (.inl fun ds st => by rw [List.map_nil, List.append_nil]) st⟩
theorem de_pcall (F : FnOk X.prog X.w X.K X.mg X.base (L2.CX X.prog X.w) k fa fd ps (spM G f)) (hr : Room k X.A) (hg : Gl X x) (hm : X.mg x = some (.ref fa)) (hk : PySem.W.keepIn X.K (.ref fa) = true) (hb : Binds X.K fd ps []) (tk : Takes X W)
    (ha : DA G W X (e :: ee) m) (hdb : (x == ("__debug__" : Str)) = false := by decide) (he : starEach (e :: ee) X.env = (false, eval e X.env) :: starEach ee X.env := by rfl) (hpl : (backTo pos (starEach ee X.env)).any (·.1) = false := by rfl) : DE G W X (.Call (.Name x p) (e :: ee) [] pos) (mPure f m) := by
  obtain ⟨t, pt, st⟩ := ha
  exact ⟨_, pe_callSD F hr hg hm hk hb .nil (passAt tk) pt hdb he hpl, sim_call dfl_nil (.inr fun ds st => by rw [List.map_nil, List.append_nil]) st⟩
theorem de_call0 (F : FnOk X.prog X.w X.K X.mg X.base (L2.CX X.prog X.w) k fa fd ps (spM G f)) (hr : Room k X.A) (hg : Gl X x) (hm : X.mg x = some (.ref fa)) (hk : PySem.W.keepIn X.K (.ref fa) = true) (hb : Binds X.K fd ps []) (tk : Takes X W) (hdb : (x == ("__debug__" : Str)) = false := by decide) : DE G W X (.Call (.Name x p) [] [] pos) (mCall f mNil) :=
  ⟨_, pe_callSD0 F hr hg hm hk hb .nil (passAt tk) hdb, fun σ ρ H F ad st Q R S h => ⟨F, ad, st, [], S, .nil, h⟩⟩
end
/-! fields -/
def getF (f : String) : Va → Sto → Option Va
  | .d (.obj _ fs), _ => (fs.lookup f).map Va.d
  | .ref n, st => match st[n]? with
    | some (.obj _ fs) => fs.lookup f
    | _ => none
  | _, _ => none
def mFld (f : String) (a : ME) : ME := fun ρ st => (a ρ st).bind fun x st => match getF f x st with
  | some v => .ok v st
  | none => .bad
theorem lookup_f {F : Hp} {ad : List Addr} {f : String} : ∀ {vfs : List (Str × V)} {fs : List (String × Va)} {x : Va}, RepFs G F ad vfs fs → fs.lookup f = some x → ∃ v, vfs.lookup (Str.ofString f) = some v ∧ RepV G F ad v x
  | _, _, x, .nil, e => by cases e
  | _, _, x, @Paired.cons _ _ _ (g, v) (h, y) vfs fs ⟨e1, r⟩ t, e => by
    have e1 : g = Str.ofString h := e1
    subst e1
    rw [List.lookup_cons] at e ⊢
    by_cases hf : f = h
    · subst hf
      rw [beq_self_eq_true] at e ⊢
      have : y = x := by simpa using e
      subst this
      exact ⟨v, rfl, r⟩
    · have n1 : (f == h) = false := by simpa using hf
      have n2 : (Str.ofString f == Str.ofString h) = false := by simpa using fun z => hf (ofS_inj z)
      rw [n1] at e
      rw [n2]
      exact lookup_f t e
theorem lookup_none {F : Hp} {ad : List Addr} {f : String} : ∀ {vfs : List (Str × V)} {fs : List (String × Va)}, RepFs G F ad vfs fs → fs.lookup f = none → vfs.lookup (Str.ofString f) = none
  | _, _, .nil, e => rfl
  | _, _, @Paired.cons _ _ _ (g, v) (h, y) vfs fs ⟨e1, r⟩ t, e => by
    have e1 : g = Str.ofString h := e1
    subst e1
    rw [List.lookup_cons] at e ⊢
    by_cases hf : f = h
    · subst hf
      rw [beq_self_eq_true] at e
      cases e
    · have n1 : (f == h) = false := by simpa using hf
      have n2 : (Str.ofString f == Str.ofString h) = false := by simpa using fun z => hf (ofS_inj z)
      rw [n1] at e
      rw [n2]
      exact lookup_none t e
theorem lookup_d {f : String} : ∀ {fs : List (String × D)}, (fs.map fun p => (p.1, Va.d p.2)).lookup f = (fs.lookup f).map Va.d
  | [] => rfl
  | (g, x) :: fs => by
    rw [List.map_cons, List.lookup_cons, List.lookup_cons]
    cases z : f == g with
    | true => rfl
    | false => exact lookup_d
/-- an instance of a known class -/
def objOf : Va → Sto → Option (String × List (String × Va))
  | .d (.obj c fs), _ => some (c, fs.map fun p => (p.1, Va.d p.2))
  | .ref n, st => match st[n]? with
    | some (.obj c fs) => some (c, fs)
    | _ => none
  | _, _ => none
theorem objOf_ok {H F : Hp} {ad : List Addr} {st : Sto} {v : V} {x : Va} {c : String} {fs : List (String × Va)} (S : SR G H F ad st) (r : RepV G F ad v x) (e : objOf x st = some (c, fs)) : ∃ a dx vfs, v = .ref a ∧ c ∈ G.cs ∧ H a = some (.ins (G.ca c) dx vfs) ∧ RepFs G F ad vfs fs := by
  cases x with
  | ref n =>
    obtain ⟨a, ha, rfl⟩ := r
    have e : (match st[n]? with
      | some (.obj c fs) => some (c, fs)
      | _ => none) = some (c, fs) := e
    cases z : st[n]? with
    | none => rw [z] at e; cases e
    | some o =>
      rw [z] at e
      cases o with
      | obj c' fs' =>
        obtain ⟨hc, dx, vfs, h1, h2⟩ := S.get ha z
        cases e
        exact ⟨a, dx, vfs, rfl, hc, h1, h2⟩
      | _ => cases e
  | d x =>
    cases r with
    | obj hc h t => cases e; exact ⟨_, _, _, rfl, hc, S.sub _ _ h, t.va⟩
    | _ => cases e
theorem getF_obj {f : String} {x y : Va} {st : Sto} (h : getF f x st = some y) : ∃ c fs, objOf x st = some (c, fs) ∧ fs.lookup f = some y := by
  cases x with
  | ref n =>
    have h : (match st[n]? with
      | some (.obj _ fs) => fs.lookup f
      | _ => none) = some y := h
    cases z : st[n]? with
    | none => rw [z] at h; cases h
    | some o =>
      rw [z] at h
      cases o with
      | obj c fs => exact ⟨c, fs, (by show (match st[n]? with | some (.obj c fs) => some (c, fs) | _ => none) = _; rw [z]), h⟩
      | _ => cases h
  | d x => cases x with
    | obj c fs => exact ⟨c, _, rfl, by rw [lookup_d]; exact h⟩
    | _ => cases h
/-- no class of ours has the name -/
def NoAt (G : Ga) (f : String) : Prop := ∀ c ∈ G.cs, NoAttr G.K (G.ca c) (Str.ofString f)
theorem de_fld {e : Expr} {f : String} {pos : Pos} {m : ME} (hK : X.K = G.K) (nf : NoAt G f) (he : DE G W X e m) (hb : attributeBase e (Str.ofString f) X.env (eval e X.env) = eval e X.env) : DE G W X (.Attribute e (Str.ofString f) pos) (mFld f m) := by
  obtain ⟨t, p, s⟩ := he
  refine ⟨_, pe_fld p hb, ?_⟩
  intro σ ρ H F ad st Q R S h
  refine simE_bind s R S h fun x v st1 H1 F1 ad1 _ R1 S1 rv h1 => ?_
  cases z : getF f x st1 with
  | none => rw [z] at h1; exact h1.elim
  | some y =>
    rw [z] at h1
    obtain ⟨c, fs, e1, e2⟩ := getF_obj z
    obtain ⟨a, dx, vfs, rfl, hc, h2, h3⟩ := objOf_ok S1 rv e1
    obtain ⟨w, h4, h5⟩ := lookup_f h3 e2
    exact ⟨a, _, dx, vfs, w, rfl, h2, by rw [hK]; exact (G.cok c hc).cl, by rw [hK]; exact nf c hc, h4, fin_same S1 h1 _ h5⟩
/-! methods -/
def mMeth (c mth : String) (f : MF) (o : ME) (m : MA) : ME := fun ρ st => (o ρ st).bind fun x st => match objOf x st with
  | some (c', fs) => if c' = c ∧ fs.lookup mth = none then (m ρ st).bind fun xs st => f (x :: xs) st else .bad
  | none => .bad
theorem sim_meth {f g : MF} {t : TA} {m : MA} {ta : TE} {mo : ME} {c mth : String} {dvs : List V} {es : List D} (hd : DflR G dvs es) (hg : (∀ ds st, g ds st = f (ds ++ es.map Va.d) st) ∨ (∀ ds st, g ds st = pureF f (ds ++ es.map Va.d) st)) (so : SimE G W ta mo) (s : SimA G W t m) :
    SimE G W (tMethS (G.ca c) (Str.ofString mth) (spM G f) dvs (WE W) ta t) (mMeth c mth g mo m) := by
  intro σ ρ H F ad st Q R S h
  refine simE_bind so R S h fun x v st1 H1 F1 ad1 _ R1 S1 rv h1 => ?_
  cases z : objOf x st1 with
  | none => rw [z] at h1; exact h1.elim
  | some cf =>
    obtain ⟨c', fs⟩ := cf
    rw [z] at h1
    replace h1 : Po G _ H1 F1 ad1 (QV G Q) (if c' = c ∧ fs.lookup mth = none then (m ρ st1).bind fun xs st => g (x :: xs) st else .bad) := h1
    split at h1
    · rename_i hc
      obtain ⟨rfl, hl⟩ := hc
      obtain ⟨a, dx, vfs, rfl, hc, h2, h3⟩ := objOf_ok S1 rv z
      refine ⟨a, dx, vfs, rfl, h2, lookup_none h3 hl, ?_⟩
      refine simA_bind s R1 S1 h1 fun xs vs st2 H2 F2 ad2 e2 R2 S2 rvs h2 => ?_
      have rv2 : RepVs G F2 ad2 (.ref a :: (vs ++ dvs)) ((x :: xs) ++ es.map Va.d) := .cons (rv.ext e2) (Paired.append rvs (hd F2).va)
      rcases hg with hg | hg
      · rw [hg] at h2
        exact ⟨F2, ad2, st2, _, S2, rv2, h2⟩
      · rw [hg] at h2
        exact spM_pure S2 rv2 h2
    · exact h1.elim
section
variable {k : Nat} {fa : Addr} {fd : FuncData} {ps : List Str} {f : MF} {dvs : List V} {ds : List Value} {es : List D} {c mth : String} {e o : Expr} {ee : List Expr} {p pos apos : Pos} {m : MA} {mo : ME}
theorem de_meth {pl : Sem Bool} (g : MF) (he : DE G W X o mo) (cl : Cls X.K (G.ca c)) (hm : Meth X.K (G.ca c) (Str.ofString mth) fa) (F : FnOk X.prog X.w X.K X.mg X.base (L2.CX X.prog X.w) k fa fd ps (spM G f)) (hr : Room k X.A) (hb : Binds X.K fd ps ds) (hv : Vals dvs ds) (hd : DflR G dvs es) (tk : Takes X W)
    (hg : (∀ ds st, g ds st = f (ds ++ es.map Va.d) st) ∨ (∀ ds st, g ds st = pureF f (ds ++ es.map Va.d) st)) (ha : DA G W X (e :: ee) m)
    (hst : starEach (e :: ee) X.env = (false, eval e X.env) :: starEach ee X.env := by rfl) (hpl : (backTo pos (starEach ee X.env)).any (·.1) = false := by rfl)
    (ht : eval (.Call (.Attribute o (Str.ofString mth) apos) (e :: ee) [] pos) X.env = (do
      let ov ← eval o X.env
      standAt apos.atName
      let (f, first) ← holding [ov] (getMethod ov (Str.ofString mth) pl)
      callWith pos f first (backTo pos (starEach (e :: ee) X.env)) (backToKw pos (keywordEach [] X.env))) := by rfl) : DE G W X (.Call (.Attribute o (Str.ofString mth) apos) (e :: ee) [] pos) (mMeth c mth g mo m) := by
  obtain ⟨t, pt, st⟩ := ha
  obtain ⟨to, po, so⟩ := he
  exact ⟨_, pe_methSD po cl hm F hr hb hv (passAt tk) pt hst hpl ht, sim_meth hd hg so st⟩
theorem de_meth0 {pl : Sem Bool} (g : MF) (he : DE G W X o mo) (cl : Cls X.K (G.ca c)) (hm : Meth X.K (G.ca c) (Str.ofString mth) fa) (F : FnOk X.prog X.w X.K X.mg X.base (L2.CX X.prog X.w) k fa fd ps (spM G f)) (hr : Room k X.A) (hb : Binds X.K fd ps ds) (hv : Vals dvs ds) (hd : DflR G dvs es) (tk : Takes X W)
    (hg : (∀ ds st, g ds st = f (ds ++ es.map Va.d) st) ∨ (∀ ds st, g ds st = pureF f (ds ++ es.map Va.d) st))
    (ht : eval (.Call (.Attribute o (Str.ofString mth) apos) [] [] pos) X.env = (do
      let ov ← eval o X.env
      standAt apos.atName
      let (f, first) ← holding [ov] (getMethod ov (Str.ofString mth) pl)
      callWith pos f first (backTo pos (starEach [] X.env)) (backToKw pos (keywordEach [] X.env))) := by rfl) : DE G W X (.Call (.Attribute o (Str.ofString mth) apos) [] [] pos) (mMeth c mth g mo mNil) := by
  obtain ⟨to, po, so⟩ := he
  exact ⟨_, pe_methSD0 po cl hm F hr hb hv (passAt tk) ht, sim_meth hd hg so fun σ ρ H F ad st Q R S h => fin_same S h _ .nil⟩
end
/-! properties -/
def noEr {α : Type} : Res α → Res α
  | .ok a st => .ok a st
  | _ => .bad
def mProp (c : String) (g : MF) (o : ME) : ME := fun ρ st => (o ρ st).bind fun x st => match objOf x st with
  | some (c', _) => if c' = c then noEr (g [x] st) else .bad
  | none => .bad
theorem po_noEr {α : Type} {Wv Wv' : Value → Option Addr → Hp → Prop} {H F : Hp} {ad : List Addr} {P : α → Sto → Hp → Hp → List Addr → Prop} {r : Res α} (h : Po G Wv H F ad P (noEr r)) : Po G Wv' H F ad P r := by
  cases r with
  | ok a st => exact h
  | _ => exact h.elim
theorem de_prop {k : Nat} {fa p : Addr} {fd : FuncData} {ps : List Str} {f : MF} (g : MF) {c : String} {x : Str} {e : Expr} {pos : Pos} {mo : ME} (he : DE G W X e mo) (cl : Cls X.K (G.ca c)) (hp : PropOf X.K (G.ca c) x p fa) (F : FnOk X.prog X.w X.K X.mg X.base (L2.CX X.prog X.w) k fa fd ps (spM G f)) (hr : Room (k + 1) X.A) (hb : Binds X.K fd ps [])
    (hg : (∀ ds st, g ds st = f ds st) ∨ (∀ ds st, g ds st = pureF f ds st)) (hab : attributeBase e x X.env (eval e X.env) = eval e X.env) : DE G W X (.Attribute e x pos) (mProp c g mo) := by
  obtain ⟨t, pt, s⟩ := he
  refine ⟨_, pe_prop (E := fun _ _ _ => False) pt cl hp F hr hb .nil passL hab, ?_⟩
  intro σ ρ H F ad st Q R S h
  refine simE_bind s R S h fun x v st1 H1 F1 ad1 _ R1 S1 rv h1 => ?_
  cases z : objOf x st1 with
  | none => rw [z] at h1; exact h1.elim
  | some cf =>
    obtain ⟨c', fs⟩ := cf
    rw [z] at h1
    replace h1 : Po G _ H1 F1 ad1 (QV G Q) (if c' = c then noEr (g [x] st1) else .bad) := h1
    split at h1
    · rename_i hc
      subst hc
      obtain ⟨a, dx, vfs, rfl, hc, h2, h3⟩ := objOf_ok S1 rv z
      refine ⟨a, dx, vfs, rfl, h2, ?_⟩
      have h1 := po_noEr (Wv' := fun _ _ _ => False) h1
      rcases hg with hg | hg
      · rw [hg] at h1
        exact ⟨F1, ad1, st1, _, S1, .cons rv .nil, h1⟩
      · rw [hg] at h1
        exact spM_pure S1 (.cons rv .nil) h1
    · exact h1.elim
/-! C(..) -/
/-- a new instance that may change -/
def makeC (c : String) (f : MF) : MF := fun ds st => match f (.ref st.length :: ds) (st ++ [.obj c []]) with
  | .ok (.d .non) st1 => .ok (.ref st.length) st1
  | .er c fs st1 => .er c fs st1
  | _ => .bad
/-- a new instance, frozen behind its __init__ -/
def makeP (c : String) (f : MF) : MF := fun ds st => match ds? ds with
  | some _ => (match f (.ref 0 :: ds) [.obj c []] with
    | .ok (.d .non) st1 => (match rsv st1 (st1.length + 1) (.ref 0) with
      | some x => .ok (.d x) st
      | none => .bad)
    | .er c fs st1 => (match rsvF st1 (st1.length + 1) fs with
      | some gs => .er c gs st
      | none => .bad)
    | _ => .bad)
  | none => .bad
theorem SR.inst {H F : Hp} {ad : List Addr} {st : Sto} {c : String} {x dx : Addr} (S : SR G H F ad st) (hc : c ∈ G.cs) (hx : H x = none) (hd : H dx = none) (ne : dx ≠ x) :
    SR G (upd (upd H dx (.own x)) x (.ins (G.ca c) dx [])) (upd F dx (.own x)) (ad ++ [x]) (st ++ [.obj c []]) ∧ Ext H F ad (upd (upd H dx (.own x)) x (.ins (G.ca c) dx [])) (upd F dx (.own x)) (ad ++ [x]) := by
  have S1 := S.new (o := .own x) hd
  have E1 := ext_new S (o := .own x) hd
  have hx1 : upd H dx (.own x) x = none := by rw [upd_ne ne.symm]; exact hx
  exact ⟨S1.cell (m := .obj c []) hx1 ⟨hc, dx, [], upd_same, .nil⟩, E1.trans (ext_cell S1 hx1)⟩
theorem sim_makeC {f : MF} {c : String} {dvs : List V} {es : List D} {vs : List V} {xs : List Va} {H F : Hp} {ad : List Addr} {st : Sto} {Q : VK} {E : XK} (hc : c ∈ G.cs) (hd : DflR G dvs es) (S : SR G H F ad st) (r : RepVs G F ad vs xs) (h : Po G E H F ad (QV G Q) (makeC c (withD es f) xs st)) :
    ∀ x dx, H x = none → H dx = none → dx ≠ x → spM G f (.ref x :: (vs ++ dvs)) (upd (upd H dx (.own x)) x (.ins (G.ca c) dx [])) (fun v H2 => v = .non ∧ Q (.ref x) H2) E := by
  intro x dx hx hdx ne
  obtain ⟨S1, E1⟩ := S.inst hc hx hdx ne
  have hself : (ad ++ [x])[st.length]? = some x := by rw [← S.len]; simp
  refine ⟨_, _, _, (.ref st.length :: xs) ++ es.map Va.d, S1, .cons ⟨x, hself, rfl⟩ (Paired.append (RepVs.ext E1 r) (hd _).va), ?_⟩
  unfold makeC withD at h
  revert h
  generalize f ((.ref st.length :: xs) ++ es.map Va.d) (st ++ [.obj c []]) = o
  intro h
  cases o with
  | bad => exact h.elim
  | er c' fs st1 => exact fun H' F' ad' cls d e' S' z => h H' F' ad' cls d (E1.trans e') S' z
  | ok v st1 =>
    cases v with
    | ref n => exact h.elim
    | d v => cases v with
      | non =>
        intro H' F' ad' e' S' w rw
        cases rw
        exact ⟨rfl, h H' F' ad' (E1.trans e') S' _ ⟨x, e'.at_ hself, rfl⟩⟩
      | _ => exact h.elim
theorem sim_makeP {f : MF} {c : String} {dvs : List V} {es : List D} {vs : List V} {xs : List Va} {H F : Hp} {ad : List Addr} {st : Sto} {Q : VK} {E : XK} (hc : c ∈ G.cs) (hd : DflR G dvs es) (S : SR G H F ad st) (r : RepVs G F ad vs xs) (h : Po G E H F ad (QV G Q) (makeP c (withD es f) xs st)) :
    ∀ x dx, H x = none → H dx = none → dx ≠ x → spM G f (.ref x :: (vs ++ dvs)) (upd (upd H dx (.own x)) x (.ins (G.ca c) dx [])) (fun v H2 => v = .non ∧ Q (.ref x) H2) E := by
  intro x dx hx hdx ne
  unfold makeP at h
  cases zd : ds? xs with
  | none => rw [zd] at h; exact h.elim
  | some ys =>
    rw [zd] at h
    obtain ⟨S1, E1⟩ := (S.none_).inst hc hx hdx ne
    have r0 : RepVs G F [] vs xs := by
      rw [ds?_ok zd] at r ⊢
      exact (Reps.of r).va
    refine ⟨_, _, _, (.ref 0 :: xs) ++ es.map Va.d, S1, .cons ⟨x, rfl, rfl⟩ (Paired.append (RepVs.ext E1 r0) (hd _).va), ?_⟩
    unfold withD at h
    revert h
    show Po G E H F ad (QV G Q) (match f ((.ref 0 :: xs) ++ es.map Va.d) ([] ++ [.obj c []]) with
      | .ok (.d .non) st1 => (match rsv st1 (st1.length + 1) (.ref 0) with
        | some x => .ok (.d x) st
        | none => .bad)
      | .er c fs st1 => (match rsvF st1 (st1.length + 1) fs with
        | some gs => .er c gs st
        | none => .bad)
      | _ => .bad) → _
    generalize f ((.ref 0 :: xs) ++ es.map Va.d) ([] ++ [.obj c []]) = o
    intro h
    cases o with
    | bad => exact h.elim
    | er c' fs st1 =>
      intro H1 F1 ad1 cls d e1 S2 er
      have h : Po G E H F ad (QV G Q) (match rsvF st1 (st1.length + 1) fs with
        | some gs => .er c' gs st
        | none => .bad) := h
      cases zz : rsvF st1 (st1.length + 1) fs with
      | none => rw [zz] at h; exact h.elim
      | some gs =>
        rw [zz] at h
        obtain ⟨S3, E3⟩ := S.behind (E1.trans e1) S2
        exact h _ _ _ cls d E3 S3 (err_behind S2 zz er)
    | ok v st1 =>
      cases v with
      | ref n => exact h.elim
      | d v => cases v with
        | non =>
          intro H1 F1 ad1 e1 S2 w rw
          cases rw
          have h : Po G E H F ad (QV G Q) (match rsv st1 (st1.length + 1) (.ref 0) with
            | some x => .ok (.d x) st
            | none => .bad) := h
          cases zz : rsv st1 (st1.length + 1) (.ref 0) with
          | none => rw [zz] at h; exact h.elim
          | some y =>
            rw [zz] at h
            obtain ⟨S3, E3⟩ := S.behind (E1.trans e1) S2
            exact ⟨rfl, h _ _ _ E3 S3 _ (rsv_ok (x := .ref 0) S2 ⟨x, e1.at_ (n := 0) rfl, rfl⟩ zz)⟩
        | _ => exact h.elim
section
variable {k : Nat} {fa : Addr} {fd : FuncData} {ps : List Str} {f : MF} {dvs : List V} {ds : List Value} {es : List D} {c : String} {x : Str} {e : Expr} {ee : List Expr} {p pos : Pos} {m : MA}
theorem de_makeP (hc : c ∈ G.cs) (M : Mk X.K (G.ca c) fa) (F : FnOk X.prog X.w X.K X.mg X.base (L2.CX X.prog X.w) k fa fd ps (spM G f)) (hr : Room (k + 1) X.A) (hg : Gl X x) (hm : X.mg x = some (.ref (G.ca c))) (hb : Binds X.K fd ps ds) (hv : Vals dvs ds) (hd : DflR G dvs es) (tk : Takes X W)
    (ha : DA G W X (e :: ee) m) (hdb : (x == ("__debug__" : Str)) = false := by decide) (he : starEach (e :: ee) X.env = (false, eval e X.env) :: starEach ee X.env := by rfl) (hpl : (backTo pos (starEach ee X.env)).any (·.1) = false := by rfl) : DE G W X (.Call (.Name x p) (e :: ee) [] pos) (mCall (makeP c (withD es f)) m) := by
  obtain ⟨t, pt, s⟩ := ha
  refine ⟨_, pe_makeSD M F hr hg hm hb hv (passAt tk) pt hdb he hpl, ?_⟩
  intro σ ρ H F ad st Q R S h
  exact simA_bind s R S h fun xs vs st1 H1 F1 ad1 _ R1 S1 rvs h1 => sim_makeP hc hd S1 rvs h1
theorem de_makeC (hc : c ∈ G.cs) (M : Mk X.K (G.ca c) fa) (F : FnOk X.prog X.w X.K X.mg X.base (L2.CX X.prog X.w) k fa fd ps (spM G f)) (hr : Room (k + 1) X.A) (hg : Gl X x) (hm : X.mg x = some (.ref (G.ca c))) (hb : Binds X.K fd ps ds) (hv : Vals dvs ds) (hd : DflR G dvs es) (tk : Takes X W)
    (ha : DA G W X (e :: ee) m) (hdb : (x == ("__debug__" : Str)) = false := by decide) (he : starEach (e :: ee) X.env = (false, eval e X.env) :: starEach ee X.env := by rfl) (hpl : (backTo pos (starEach ee X.env)).any (·.1) = false := by rfl) : DE G W X (.Call (.Name x p) (e :: ee) [] pos) (mCall (makeC c (withD es f)) m) := by
  obtain ⟨t, pt, s⟩ := ha
  refine ⟨_, pe_makeSD M F hr hg hm hb hv (passAt tk) pt hdb he hpl, ?_⟩
  intro σ ρ H F ad st Q R S h
  exact simA_bind s R S h fun xs vs st1 H1 F1 ad1 _ R1 S1 rvs h1 => sim_makeC hc hd S1 rvs h1
theorem de_make0 (g : MF) (hg2 : g = makeP c (withD es f) ∨ g = makeC c (withD es f)) (hc : c ∈ G.cs) (M : Mk X.K (G.ca c) fa) (F : FnOk X.prog X.w X.K X.mg X.base (L2.CX X.prog X.w) k fa fd ps (spM G f)) (hr : Room (k + 1) X.A) (hg : Gl X x) (hm : X.mg x = some (.ref (G.ca c))) (hb : Binds X.K fd ps ds) (hv : Vals dvs ds) (hd : DflR G dvs es) (tk : Takes X W)
    (hdb : (x == ("__debug__" : Str)) = false := by decide) : DE G W X (.Call (.Name x p) [] [] pos) (mCall g mNil) := by
  refine ⟨_, pe_makeSD0 M F hr hg hm hb hv (passAt tk) hdb, ?_⟩
  intro σ ρ H F ad st Q R S h
  rcases hg2 with e | e
  · subst e
    exact sim_makeP hc hd S .nil h
  · subst e
    exact sim_makeC hc hd S .nil h
end
end

/-! ### statements -/
section
variable {G : Ga} {W : L2.WX} {X : Cx}
/-! targets: they change slots alone -/
abbrev MG := Va → Ev → Option Ev
def Agree (vs : List Nat) (σ σ' : L2.St) : Prop := σ'.length = σ.length ∧ ∀ i, i ∉ vs → σ'[i]? = σ[i]?
theorem Agree.refl {vs : List Nat} {σ : L2.St} : Agree vs σ σ := ⟨rfl, fun _ _ => rfl⟩
theorem Agree.trans {vs : List Nat} {σ σ1 σ2 : L2.St} (a : Agree vs σ σ1) (b : Agree vs σ1 σ2) : Agree vs σ σ2 := ⟨b.1.trans a.1, fun i h => (b.2 i h).trans (a.2 i h)⟩
def SimG (G : Ga) (vs : List Nat) (g : TG) (m : MG) : Prop := ∀ (v : V) (x : Va) (σ : L2.St) (ρ ρ' : Ev) (H F : Hp) (ad : List Addr) (st : Sto) (Q : L2.St → Hp → Prop), RepV G F ad v x → RelE G F ad σ ρ → SR G H F ad st → m x ρ = some ρ' →
  (∀ σ', Agree vs σ σ' → RelE G F ad σ' ρ' → Q σ' H) → g v σ H Q
def SimGs (G : Ga) (vs : List Nat) (g : TGs) (m : List Va → Ev → Option Ev) : Prop := ∀ (v : List V) (x : List Va) (σ : L2.St) (ρ ρ' : Ev) (H F : Hp) (ad : List Addr) (st : Sto) (Q : L2.St → Hp → Prop), RepVs G F ad v x → RelE G F ad σ ρ → SR G H F ad st → m x ρ = some ρ' →
  (∀ σ', Agree vs σ σ' → RelE G F ad σ' ρ' → Q σ' H) → g v σ H Q
def gN (i : Nat) : MG := fun x ρ => some (ρ.set i (some x))
theorem simG_name {vs : List Nat} {i : Nat} (hs : G.Stb) (hi : i ∈ vs) : SimG G vs (gName i) (gN i) := by
  intro v x σ ρ ρ' H F ad st Q r R S e q
  cases e
  refine q _ ⟨by rw [List.length_set], fun j hj => ?_⟩ (R.set hs r)
  rw [List.getElem?_set_ne (fun z => hj (by rw [← z]; exact hi))]
def gsN : List Va → Ev → Option Ev
  | [], ρ => some ρ
  | _, _ => none
def gsC (m : MG) (r : List Va → Ev → Option Ev) : List Va → Ev → Option Ev
  | x :: xs, ρ => (m x ρ).bind (r xs)
  | _, _ => none
theorem simGs_nil {vs : List Nat} : SimGs G vs gNil gsN := by
  intro v x σ ρ ρ' H F ad st Q r R S e q
  cases r with
  | nil => cases e; exact ⟨rfl, q _ Agree.refl R⟩
  | cons _ _ => cases e
theorem simGs_cons {vs : List Nat} {g : TG} {gs : TGs} {m : MG} {ms : List Va → Ev → Option Ev} (hg : SimG G vs g m) (hs : SimGs G vs gs ms) : SimGs G vs (gCons g gs) (gsC m ms) := by
  intro v x σ ρ ρ' H F ad st Q r R S e q
  cases r with
  | nil => cases e
  | @cons a y as ys r t =>
    have e : (m y ρ).bind (ms ys) = some ρ' := e
    cases z : m y ρ with
    | none => rw [z] at e; cases e
    | some ρ1 =>
      rw [z] at e
      refine ⟨a, as, rfl, hg a y σ ρ ρ1 H F ad st _ r R S z fun σ1 a1 R1 => ?_⟩
      exact hs as ys σ1 ρ1 ρ' H F ad st _ t R1 S e fun σ2 a2 R2 => q σ2 (a1.trans a2) R2
/-- a, b = a tuple -/
def gT (n : Nat) (m : List Va → Ev → Option Ev) : MG
  | .d (.tup xs), ρ => if xs.length = n then m (xs.map Va.d) ρ else none
  | _, _ => none
theorem simG_tup {vs : List Nat} {n : Nat} {g : TGs} {m : List Va → Ev → Option Ev} (h : SimGs G vs g m) : SimG G vs (gTup G.K n g) (gT n m) := by
  intro v x σ ρ ρ' H F ad st Q r R S e q
  cases x with
  | ref n => cases e
  | d x => cases r with
    | @tup a ws ds h1 t =>
      have e : (if ds.length = n then m (ds.map Va.d) ρ else none) = some ρ' := e
      split at e
      · rename_i hn
        exact ⟨a, ws, rfl, sqT_same S.sub h1, by rw [t.length]; exact hn, h ws _ σ ρ ρ' H F ad st _ t.va R S e q⟩
      · cases e
    | _ => cases e
/-- a, b = a list -/
def gL (n : Nat) (m : List Va → Ev → Option Ev) : MG
  | .d (.lst xs), ρ => if xs.length = n then m (xs.map Va.d) ρ else none
  | _, _ => none
theorem simG_lst {vs : List Nat} {n : Nat} {g : TGs} {m : List Va → Ev → Option Ev} (h : SimGs G vs g m) : SimG G vs (gUnl G.K n g) (gL n m) := by
  intro v x σ ρ ρ' H F ad st Q r R S e q
  cases x with
  | ref n => cases e
  | d x => cases r with
    | @lst a ws ds h1 t =>
      have e : (if ds.length = n then m (ds.map Va.d) ρ else none) = some ρ' := e
      split at e
      · rename_i hn
        exact ⟨a, ws, rfl, SqL.of (S.sub _ _ h1), by rw [t.length]; exact hn, h ws _ σ ρ ρ' H F ad st _ t.va R S e q⟩
      · cases e
    | _ => cases e
def DG (G : Ga) (X : Cx) (vs : List Nat) (tg : Expr) (m : MG) : Prop := ∃ g, PG X tg g ∧ SimG G vs g m
def DGs (G : Ga) (X : Cx) (vs : List Nat) (tg : List Expr) (m : List Va → Ev → Option Ev) : Prop := ∃ g, PGs X tg g ∧ SimGs G vs g m
theorem dg_name {vs : List Nat} {tg : Expr} {i : Nat} (hs : G.Stb) (hi : i ∈ vs) (h : PG X tg (gName i)) : DG G X vs tg (gN i) := ⟨_, h, simG_name hs hi⟩
theorem dgs_nil {vs : List Nat} : DGs G X vs [] gsN := ⟨_, pgs_nil, simGs_nil⟩
theorem dgs_cons {vs : List Nat} {t : Expr} {ts : List Expr} {m : MG} {ms : List Va → Ev → Option Ev} (h : DG G X vs t m) (hs : DGs G X vs ts ms) (he : (assignEach (t :: ts) X.env).map (·.2) = assign t X.env :: (assignEach ts X.env).map (·.2) := by rfl) : DGs G X vs (t :: ts) (gsC m ms) := by
  obtain ⟨g, p, s⟩ := h
  obtain ⟨gs, ps, ss⟩ := hs
  exact ⟨_, pgs_cons p ps he, simGs_cons s ss⟩
theorem dg_tup {vs : List Nat} {es : List Expr} {k n : Nat} {pos : Pos} {m : List Va → Ev → Option Ev} (hK : X.K = G.K) (hc : X.calm = true) (h : DGs G X vs es m) (hn : (assignEach es X.env).length = n := by rfl) (hst : (assignEach es X.env).findIdx? (·.1) = none := by rfl) : DG G X vs (.Tuple es k pos) (gT n m) := by
  obtain ⟨g, p, s⟩ := h
  exact ⟨_, pg_tup hc p hn hst, by rw [hK]; exact simG_tup s⟩
theorem dg_lst {vs : List Nat} {es : List Expr} {k n : Nat} {pos : Pos} {m : List Va → Ev → Option Ev} (hK : X.K = G.K) (hc : X.calm = true) (h : DGs G X vs es m) (hn : (assignEach es X.env).length = n := by rfl) (hst : (assignEach es X.env).findIdx? (·.1) = none := by rfl) : DG G X vs (.Tuple es k pos) (gL n m) := by
  obtain ⟨g, p, s⟩ := h
  exact ⟨_, pg_unl hc p hn hst, by rw [hK]; exact simG_lst s⟩
/-! blocks -/
def mSkip : MS := fun ρ st => .nx ρ st
def mSeq (a b : MS) : MS := fun ρ st => match a ρ st with
  | .nx ρ st => b ρ st
  | o => o
theorem sim_seq {ta tb : TS} {a b : MS} (ha : SimS G W ta a) (hb : SimS G W tb b) : SimS G W (tSeq ta tb) (mSeq a b) := by
  intro σ ρ H F ad st D R S h
  refine ha σ ρ H F ad st _ R S ?_
  unfold mSeq at h
  revert h
  generalize a ρ st = o
  intro h
  cases o with
  | nx ρ1 st1 => exact fun H1 F1 ad1 σ1 e1 S1 R1 => hb σ1 ρ1 H1 F1 ad1 st1 D R1 S1 (PoS.from e1 h)
  | rt d st1 => exact h
  | bk ρ1 st1 => exact h
  | ct ρ1 st1 => exact h
  | er c fs ρ1 st1 => exact h
  | bad => exact h
theorem dss_nil : DSs G W X [] mSkip := ⟨_, pss_nil, fun σ ρ H F ad st D R S h => h H F ad σ Ext.refl S R⟩
theorem dss_one {s : Stmt} {m : MS} (h : DS G W X s m) : DSs G W X [s] m := by
  obtain ⟨t, p, z⟩ := h
  exact ⟨_, pss_one p, z⟩
theorem dss_cons {s : Stmt} {r : List Stmt} {m ms : MS} (h : DS G W X s m) (hr : DSs G W X r ms) : DSs G W X (s :: r) (mSeq m ms) := by
  obtain ⟨t, p, z⟩ := h
  obtain ⟨tr, pr, zr⟩ := hr
  exact ⟨_, pss_cons p pr, sim_seq z zr⟩
/-! from expressions to statements -/
def outE (r : Res Va) (ρ : Ev) (k : Va → Sto → Out) : Out := match r with
  | .ok v st => k v st
  | .er c fs st => .er c fs ρ st
  | .bad => .bad
theorem simE_out {tt : TE} {mt : ME} (ht : SimE G W tt mt) {k : Va → Sto → Out} {σ : L2.St} {ρ : Ev} {H F : Hp} {ad : List Addr} {st : Sto} {D : Ends} {Q : VK} (R : RelE G F ad σ ρ) (S : SR G H F ad st)
    (h : PoS G W H F ad D (outE (mt ρ st) ρ k)) (q : ∀ x v st1 H1 F1 ad1, Ext H F ad H1 F1 ad1 → RelE G F1 ad1 σ ρ → SR G H1 F1 ad1 st1 → RepV G F1 ad1 v x → PoS G W H1 F1 ad1 D (k x st1) → Q v H1) : tt σ H Q := by
  refine ht σ ρ H F ad st _ R S ?_
  unfold outE at h
  revert h
  generalize mt ρ st = ra
  intro h
  cases ra with
  | bad => exact h
  | er c fs st1 => exact fun H' F' ad' cls d e S' z => h H' F' ad' σ cls d e S' (R.ext e) z
  | ok x st1 => exact fun H1 F1 ad1 e1 S1 v rv => q x v st1 H1 F1 ad1 e1 (R.ext e1) S1 rv (PoS.from e1 h)
def outT (r : Res Bool) (ρ : Ev) (k : Bool → Sto → Out) : Out := match r with
  | .ok v st => k v st
  | .er c fs st => .er c fs ρ st
  | .bad => .bad
theorem simT_out {tt : TT} {mt : MT} (ht : SimT G W tt mt) {k : Bool → Sto → Out} {σ : L2.St} {ρ : Ev} {H F : Hp} {ad : List Addr} {st : Sto} {D : Ends} {Q : Bool → Hp → Prop} (R : RelE G F ad σ ρ) (S : SR G H F ad st)
    (h : PoS G W H F ad D (outT (mt ρ st) ρ k)) (q : ∀ b st1 H1 F1 ad1, Ext H F ad H1 F1 ad1 → RelE G F1 ad1 σ ρ → SR G H1 F1 ad1 st1 → PoS G W H1 F1 ad1 D (k b st1) → Q b H1) : tt σ H Q := by
  refine ht σ ρ H F ad st _ R S ?_
  unfold outT at h
  revert h
  generalize mt ρ st = ra
  intro h
  cases ra with
  | bad => exact h
  | er c fs st1 => exact fun H' F' ad' cls d e S' z => h H' F' ad' σ cls d e S' (R.ext e) z
  | ok x st1 => exact fun H1 F1 ad1 e1 S1 => q x st1 H1 F1 ad1 e1 (R.ext e1) S1 (PoS.from e1 h)
def mRet (a : ME) : MS := fun ρ st => outE (a ρ st) ρ fun v st => .rt v st
theorem ds_ret {e : Expr} {pos : Pos} {m : ME} (h : DE G W X e m) : DS G W X (.Return (some e) pos) (mRet m) := by
  obtain ⟨t, p, s⟩ := h
  refine ⟨_, ps_ret p, ?_⟩
  intro σ ρ H F ad st D R S h
  exact simE_out s R S h fun x v st1 H1 F1 ad1 _ R1 S1 rv h1 => h1 H1 F1 ad1 v Ext.refl S1 rv
def mRetN : MS := fun _ st => .rt (.d .non) st
theorem ds_retN {pos : Pos} : DS G W X (.Return none pos) mRetN := ⟨_, ps_retN, fun σ ρ H F ad st D R S h => h H F ad _ Ext.refl S .non⟩
theorem ds_pass {pos : Pos} : DS G W X (.Pass pos) mSkip := ⟨_, ps_pass, fun σ ρ H F ad st D R S h => h H F ad σ Ext.refl S R⟩
def mBrk : MS := fun ρ st => .bk ρ st
def mCnt : MS := fun ρ st => .ct ρ st
theorem ds_break {pos : Pos} : DS G W X (.Break pos) mBrk := ⟨_, ps_break, fun σ ρ H F ad st D R S h => h H F ad σ Ext.refl S R⟩
theorem ds_continue {pos : Pos} : DS G W X (.Continue pos) mCnt := ⟨_, ps_continue, fun σ ρ H F ad st D R S h => h H F ad σ Ext.refl S R⟩
theorem ds_doc {z : Str} {j p pos} : DS G W X (.Expr (.Constant (.str z) j p) pos) mSkip := ⟨_, ps_doc, fun σ ρ H F ad st D R S h => h H F ad σ Ext.refl S R⟩
def mExpr (a : ME) : MS := fun ρ st => outE (a ρ st) ρ fun _ st => .nx ρ st
theorem ds_expr {s : Stmt} {e : Expr} {m : ME} (hp : ∀ {t : TE}, PE X e t → PS X s (tDrop t)) (h : DE G W X e m) : DS G W X s (mExpr m) := by
  obtain ⟨t, p, sm⟩ := h
  refine ⟨_, hp p, ?_⟩
  intro σ ρ H F ad st D R S h
  exact simE_out sm R S h fun x v st1 H1 F1 ad1 _ R1 S1 rv h1 => h1 H1 F1 ad1 σ Ext.refl S1 R1
def mAsg (a : ME) (g : MG) : MS := fun ρ st => outE (a ρ st) ρ fun v st => match g v ρ with
  | some ρ' => .nx ρ' st
  | none => .bad
theorem sim_asg {te : TE} {m : ME} {g : TG} {mg : MG} {vs : List Nat} (s : SimE G W te m) (hg : SimG G vs g mg) : SimS G W (tAsg te g) (mAsg m mg) := by
  intro σ ρ H F ad st D R S h
  refine simE_out s R S h fun x v st1 H1 F1 ad1 _ R1 S1 rv h1 => ?_
  cases z : mg x ρ with
  | none => rw [z] at h1; exact h1.elim
  | some ρ' =>
    rw [z] at h1
    exact hg v x σ ρ ρ' H1 F1 ad1 st1 _ rv R1 S1 z fun σ' _ R' => h1 H1 F1 ad1 σ' Ext.refl S1 R'
/-- x = e -/
theorem ds_set {s : Stmt} {e : Expr} {m : ME} {i : Nat} (hs : G.Stb) (hp : ∀ {t : TE}, PE X e t → PS X s (tAsg t (gName i))) (h : DE G W X e m) : DS G W X s (mAsg m (gN i)) := by
  obtain ⟨t, p, sm⟩ := h
  exact ⟨_, hp p, sim_asg sm (simG_name (vs := [i]) hs (List.mem_singleton.mpr rfl))⟩
/-- a, b = e -/
theorem ds_asg {tg e : Expr} {pos : Pos} {m : ME} {mg : MG} {vs : List Nat} (h : DE G W X e m) (hg : DG G X vs tg mg) (hp : ∀ {t : TE} {g : TG}, PE X e t → PG X tg g → PS X (.Assign [tg] e pos) (tAsg t g)) : DS G W X (.Assign [tg] e pos) (mAsg m mg) := by
  obtain ⟨t, p, sm⟩ := h
  obtain ⟨g, pg, sg⟩ := hg
  exact ⟨_, hp p pg, sim_asg sm sg⟩
def mPar (is : List Nat) (a : MA) : MS := fun ρ st => match a ρ st with
  | .ok vs st => if vs.length = is.length then .nx ((is.zip vs).foldl (fun ρ p => ρ.set p.1 (some p.2)) ρ) st else .bad
  | .er c fs st => .er c fs ρ st
  | .bad => .bad
theorem ds_par {s : Stmt} {es : List Expr} {m : MA} {i j : Nat} (hs : G.Stb) (hp : ∀ {t : TA}, PA X es t → PS X s (tPar i j t)) (h : DA G W X es m) : DS G W X s (mPar [i, j] m) := by
  obtain ⟨t, p, sm⟩ := h
  refine ⟨_, hp p, ?_⟩
  intro σ ρ H F ad st D R S h
  refine sm σ ρ H F ad st _ R S ?_
  unfold mPar at h
  revert h
  generalize m ρ st = ra
  intro h
  cases ra with
  | bad => exact h
  | er c fs st1 => exact fun H' F' ad' cls d e S' z => h H' F' ad' σ cls d e S' (R.ext e) z
  | ok xs st1 =>
    intro H1 F1 ad1 e1 S1 ws rw
    match xs, rw, h with
    | [], _, h => exact h.elim
    | [_], _, h => exact h.elim
    | _ :: _ :: _ :: _, _, h =>
      have h : PoS G W H F ad D (if _ = 2 then _ else .bad) := h
      rw [if_neg (by simp)] at h
      exact h.elim
    | [x, y], .cons (a := v) r1 (.cons (a := w) r2 .nil), h =>
      exact ⟨v, w, rfl, h H1 F1 ad1 _ e1 S1 (((R.ext e1).set hs r1).set hs r2)⟩
theorem ds_par3 {s : Stmt} {es : List Expr} {m : MA} {i j l : Nat} {tp : TA → TS} (hs : G.Stb) (hp : ∀ {t : TA}, PA X es t → PS X s (tp t)) (ht : tp = fun ta D σ H => ta σ H fun vs H1 => ∃ v w u, vs = [v, w, u] ∧ D.nx (((σ.set i (some v)).set j (some w)).set l (some u)) H1) (h : DA G W X es m) : DS G W X s (mPar [i, j, l] m) := by
  obtain ⟨t, p, sm⟩ := h
  refine ⟨_, hp p, ?_⟩
  subst ht
  intro σ ρ H F ad st D R S h
  refine sm σ ρ H F ad st _ R S ?_
  unfold mPar at h
  revert h
  generalize m ρ st = ra
  intro h
  cases ra with
  | bad => exact h
  | er c fs st1 => exact fun H' F' ad' cls d e S' z => h H' F' ad' σ cls d e S' (R.ext e) z
  | ok xs st1 =>
    intro H1 F1 ad1 e1 S1 ws rw
    match xs, rw, h with
    | [], _, h => exact h.elim
    | [_], _, h => exact h.elim
    | [_, _], _, h => exact h.elim
    | _ :: _ :: _ :: _ :: _, _, h =>
      have h : PoS G W H F ad D (if _ = 3 then _ else .bad) := h
      rw [if_neg (by simp)] at h
      exact h.elim
    | [x, y, z], .cons (a := v) r1 (.cons (a := w) r2 (.cons (a := u) r3 .nil)), h =>
      exact ⟨v, w, u, rfl, h H1 F1 ad1 _ e1 S1 ((((R.ext e1).set hs r1).set hs r2).set hs r3)⟩
def mIfS (t : MT) (a b : MS) : MS := fun ρ st => outT (t ρ st) ρ fun x st => if x then a ρ st else b ρ st
theorem ds_if {c : Expr} {body orelse : List Stmt} {pos : Pos} {mt : MT} {ma mb : MS} (hc : DT G W X c mt) (ha : DSs G W X body ma) (hb : DSs G W X orelse mb) : DS G W X (.If c body orelse pos) (mIfS mt ma mb) := by
  obtain ⟨tc, pc, sc⟩ := hc
  obtain ⟨ta, pa, sa⟩ := ha
  obtain ⟨tb, pb, sb⟩ := hb
  refine ⟨_, ps_if pc pa pb, ?_⟩
  intro σ ρ H F ad st D R S h
  refine simT_out sc R S h fun b st1 H1 F1 ad1 _ R1 S1 h1 => ?_
  cases b with
  | true => rw [if_pos rfl] at h1 ⊢; exact sa σ ρ H1 F1 ad1 st1 D R1 S1 h1
  | false => rw [if_neg Bool.false_ne_true] at h1 ⊢; exact sb σ ρ H1 F1 ad1 st1 D R1 S1 h1
/-! o.f = e -/
def putS (f : String) (v : Va) : List (String × Va) → List (String × Va)
  | [] => [(f, v)]
  | (g, w) :: r => if f = g then (f, v) :: r else (g, w) :: putS f v r
def mSetF (f : String) (o e : ME) : MS := fun ρ st => outE (e ρ st) ρ fun y st => outE (o ρ st) ρ fun x st => match x with
  | .ref n => (match st[n]? with
    | some (.obj c fs) => if fs.length < 100 then .nx ρ (st.set n (.obj c (putS f y fs))) else .bad
    | _ => .bad)
  | _ => .bad
theorem putS_ok {F : Hp} {ad : List Addr} {f : String} {v : V} {y : Va} (r : RepV G F ad v y) : ∀ {vfs : List (Str × V)} {fs : List (String × Va)}, RepFs G F ad vfs fs → RepFs G F ad (putF (Str.ofString f) v vfs) (putS f y fs)
  | _, _, .nil => .cons ⟨rfl, r⟩ .nil
  | _, _, @Paired.cons _ _ _ (g, w) (h, z) vfs fs ⟨e1, r2⟩ t => by
    have e1 : g = Str.ofString h := e1
    subst e1
    unfold putS putF
    by_cases hf : f = h
    · subst hf
      rw [if_pos rfl]
      first
        | (rw [if_pos rfl]; exact .cons ⟨rfl, r⟩ t)
        | (rw [if_pos (beq_self_eq_true _)]; exact .cons ⟨rfl, r⟩ t)
        | (simp only [beq_self_eq_true, if_true]; exact .cons ⟨rfl, r⟩ t)
    · rw [if_neg hf]
      have n2 : ¬ Str.ofString f = Str.ofString h := fun z => hf (ofS_inj z)
      have n3 : ¬ Str.ofString h = Str.ofString f := fun z => hf (ofS_inj z.symm)
      first
        | (rw [if_neg n2]; exact .cons ⟨rfl, r2⟩ (putS_ok r t))
        | (rw [if_neg n3]; exact .cons ⟨rfl, r2⟩ (putS_ok r t))
        | (rw [if_neg (by simpa using n2)]; exact .cons ⟨rfl, r2⟩ (putS_ok r t))
        | (rw [if_neg (by simpa using n3)]; exact .cons ⟨rfl, r2⟩ (putS_ok r t))
theorem ds_setF {o value : Expr} {f : String} {pos pos' : Pos} {mo mv : ME} (hK : X.K = G.K) (nf : NoAt G f) (ho : DE G W X o mo) (hv : DE G W X value mv) (hs : swapsWith value (some (.Attribute o (Str.ofString f) pos')) pos.line X.env = pure false) : DS G W X (.Assign [.Attribute o (Str.ofString f) pos'] value pos) (mSetF f mo mv) := by
  obtain ⟨to, po, so⟩ := ho
  obtain ⟨tv, pv, sv⟩ := hv
  refine ⟨_, ps_fld po pv hs, ?_⟩
  intro σ ρ H F ad st D R S h
  refine simE_out sv R S h fun y v st1 H1 F1 ad1 _ R1 S1 rv h1 => ?_
  refine simE_out so R1 S1 h1 fun x u st2 H2 F2 ad2 e2 R2 S2 ru h2 => ?_
  cases x with
  | d x => exact h2.elim
  | ref n =>
    obtain ⟨a, ha, rfl⟩ := ru
    replace h2 : PoS G W H2 F2 ad2 D (match st2[n]? with
      | some (.obj c fs) => if fs.length < 100 then .nx ρ (st2.set n (.obj c (putS f y fs))) else .bad
      | _ => .bad) := h2
    cases z : st2[n]? with
    | none => rw [z] at h2; exact h2.elim
    | some ob =>
      rw [z] at h2
      cases ob with
      | obj c fs =>
        have h2 : PoS G W H2 F2 ad2 D (if fs.length < 100 then .nx ρ (st2.set n (.obj c (putS f y fs))) else .bad) := h2
        split at h2
        · rename_i hl
          obtain ⟨hc, dx, vfs, q1, q2⟩ := S2.get ha z
          refine ⟨a, _, dx, vfs, rfl, q1, by rw [hK]; exact (G.cok c hc).cl, by rw [hK]; exact nf c hc, by rw [Paired.length q2]; omega, ?_⟩
          have E := ext_mut (o := .ins (G.ca c) dx (putF (Str.ofString f) v vfs)) S2 ha
          exact h2 _ _ _ σ E (S2.mut (m := .obj c (putS f y fs)) ha ⟨hc, dx, _, upd_same, putS_ok (rv.ext e2) q2⟩) (R2.ext E)
        · exact h2.elim
      | _ => exact h2.elim
/-! xs[i] = e -/
def mSetI (o i e : ME) : MS := fun ρ st => outE (e ρ st) ρ fun y st => outE (o ρ st) ρ fun x st => outE (i ρ st) ρ fun k st => match x, k with
  | .ref n, .d (.int k) => (match st[n]? with
    | some (.lst xs) => (match ixN xs.length k with
      | some j => .nx ρ (st.set n (.lst (xs.set j y)))
      | none => .bad)
    | _ => .bad)
  | _, _ => .bad
theorem Paired.set {α β : Type} {R : α → β → Prop} {a : α} {b : β} (h : R a b) : ∀ {xs : List α} {ys : List β} (j : Nat), Paired R xs ys → Paired R (xs.set j a) (ys.set j b)
  | _, _, _, .nil => .nil
  | _, _, 0, .cons _ t => .cons h t
  | _, _, j + 1, .cons r t => .cons r (Paired.set h j t)
theorem ds_setI {o i value : Expr} {tp pos : Pos} {mo mi mv : ME} (ho : DE G W X o mo) (hi : DE G W X i mi) (hv : DE G W X value mv) (hp : ∀ {t to ti : TE}, PE X value t → PE X o to → PE X i ti → PS X (.Assign [.Subscript o i tp] value pos) (tAsg t (gSub to ti rSetL))) : DS G W X (.Assign [.Subscript o i tp] value pos) (mSetI mo mi mv) := by
  obtain ⟨to, po, so⟩ := ho
  obtain ⟨ti, pi, si⟩ := hi
  obtain ⟨tv, pv, sv⟩ := hv
  refine ⟨_, hp pv po pi, ?_⟩
  intro σ ρ H F ad st D R S h
  refine simE_out sv R S h fun y v st1 H1 F1 ad1 _ R1 S1 rv h1 => ?_
  refine simE_out so R1 S1 h1 fun x u st2 H2 F2 ad2 e2 R2 S2 ru h2 => ?_
  refine simE_out si R2 S2 h2 fun k w st3 H3 F3 ad3 e3 R3 S3 rk h3 => ?_
  cases x with
  | d x => cases k with
    | ref _ => exact h3.elim
    | d k => cases k <;> exact h3.elim
  | ref n =>
    cases k with
    | ref _ => exact h3.elim
    | d k => cases k with
      | int k =>
        cases rk
        obtain ⟨a, ha, rfl⟩ := ru.ext e3
        have h3 : PoS G W H3 F3 ad3 D (match st3[n]? with
          | some (.lst xs) => (match ixN xs.length k with
            | some j => .nx ρ (st3.set n (.lst (xs.set j y)))
            | none => .bad)
          | _ => .bad) := h3
        cases z : st3[n]? with
        | none => rw [z] at h3; exact h3.elim
        | some ob =>
          rw [z] at h3
          cases ob with
          | lst xs =>
            have h3 : PoS G W H3 F3 ad3 D (match ixN xs.length k with
              | some j => .nx ρ (st3.set n (.lst (xs.set j y)))
              | none => .bad) := h3
            obtain ⟨vs, q1, q2⟩ := S3.get ha z
            cases zj : ixN xs.length k with
            | none => rw [zj] at h3; exact h3.elim
            | some j =>
              rw [zj] at h3
              refine ⟨a, vs, k, j, rfl, rfl, q1, by rw [Paired.length q2]; exact zj, ?_⟩
              have E := ext_mut (o := .lst (vs.set j v)) S3 ha
              exact h3 _ _ _ σ E (S3.mut (m := .lst (xs.set j y)) ha ⟨_, upd_same, Paired.set ((rv.ext e2).ext e3) j q2⟩) (R3.ext E)
          | _ => exact h3.elim
      | _ => exact h3.elim
/-! methods of lists -/
abbrev OM := Va → List Va → Sto → Res Va
def SimM (G : Ga) (r : V → List V → Hp → VK → Prop) (f : OM) : Prop := ∀ (Wv : Value → Option Addr → Hp → Prop) (x : V) (dx : Va) (vs : List V) (ds : List Va) (H F : Hp) (ad : List Addr) (st : Sto) (Q : VK), RepV G F ad x dx → RepVs G F ad vs ds → SR G H F ad st → Po G Wv H F ad (QV G Q) (f dx ds st) → r x vs H Q
/-- the receiver is a list, asked ahead of the arguments -/
def isLst : Va → Sto → Bool
  | .d (.lst _), _ => true
  | .ref n, st => match st[n]? with
    | some (.lst _) => true
    | _ => false
  | _, _ => false
theorem isLst_ok {H F : Hp} {ad : List Addr} {st : Sto} {v : V} {x : Va} (S : SR G H F ad st) (r : RepV G F ad v x) (e : isLst x st = true) : tyV G.K "list" v H := by
  cases x with
  | ref n =>
    obtain ⟨a, ha, rfl⟩ := r
    have e : (match st[n]? with
      | some (.lst _) => true
      | _ => false) = true := e
    cases z : st[n]? with
    | none => rw [z] at e; cases e
    | some o =>
      rw [z] at e
      cases o with
      | lst xs =>
        obtain ⟨vs, h1, h2⟩ := S.get ha z
        exact .inl ⟨rfl, _, SqL.of h1⟩
      | _ => cases e
  | d x => cases r with
    | lst h t => exact .inl ⟨rfl, _, SqL.of (S.sub _ _ h)⟩
    | _ => cases e
def mLM (f : OM) (o : ME) (m : MA) : ME := fun ρ st => (o ρ st).bind fun x st => if isLst x st then (m ρ st).bind fun xs st => f x xs st else .bad
theorem sim_lm {r : V → List V → Hp → VK → Prop} {f : OM} {to : TE} {t : TA} {mo : ME} {m : MA} (hr : SimM G r f) (so : SimE G W to mo) (s : SimA G W t m) : SimE G W (tBM G.K "list" r to t) (mLM f mo m) := by
  intro σ ρ H F ad st Q R S h
  refine simE_bind so R S h fun x v st1 H1 F1 ad1 _ R1 S1 rv h1 => ?_
  cases z : isLst x st1 with
  | false => rw [z] at h1; exact h1.elim
  | true =>
    rw [z, if_pos rfl] at h1
    refine ⟨isLst_ok S1 rv z, ?_⟩
    exact simA_bind s R1 S1 h1 fun xs vs st2 H2 F2 ad2 e2 R2 S2 rvs h2 => hr _ v x vs xs H2 F2 ad2 st2 Q (rv.ext e2) rvs S2 h2
theorem de_lm {X : Cx} {r : V → List V → Hp → VK → Prop} {f : OM} {o e : Expr} {ee : List Expr} {s : Expr} {mo : ME} {m : MA} (hK : X.K = G.K) (hp : ∀ {to : TE} {t : TA}, PE X o to → PA X (e :: ee) t → PE X s (tBM X.K "list" r to t)) (hs : SimM G r f) (ho : DE G W X o mo) (ha : DA G W X (e :: ee) m) : DE G W X s (mLM f mo m) := by
  obtain ⟨to, po, so⟩ := ho
  obtain ⟨t, p, st⟩ := ha
  refine ⟨_, hp po p, ?_⟩
  rw [hK]
  exact sim_lm hs so st
def oAppend : OM
  | .ref n, [y], st => match st[n]? with
    | some (.lst xs) => if xs.length < cap then .ok (.d .non) (st.set n (.lst (xs ++ [y]))) else .bad
    | _ => .bad
  | _, _, _ => .bad
theorem sim_append : SimM G rAppend oAppend := by
  intro Wv x dx vs ds H F ad st Q rx rv S h
  cases dx with
  | d x => cases ds with
    | nil => exact h.elim
    | cons d ds => cases ds <;> exact h.elim
  | ref n =>
    cases rv with
    | nil => exact h.elim
    | @cons v y _ _ r t => cases t with
      | cons _ _ => exact h.elim
      | nil =>
        obtain ⟨a, ha, rfl⟩ := rx
        have h : Po G Wv H F ad (QV G Q) (match st[n]? with
          | some (.lst xs) => if xs.length < cap then .ok (.d .non) (st.set n (.lst (xs ++ [y]))) else .bad
          | _ => .bad) := h
        cases z : st[n]? with
        | none => rw [z] at h; exact h.elim
        | some ob =>
          rw [z] at h
          cases ob with
          | lst xs =>
            have h : Po G Wv H F ad (QV G Q) (if xs.length < cap then .ok (.d .non) (st.set n (.lst (xs ++ [y]))) else .bad) := h
            split at h
            · rename_i hc
              obtain ⟨ws, q1, q2⟩ := S.get ha z
              refine ⟨a, ws, v, rfl, rfl, q1, by rw [Paired.length q2]; exact Nat.lt_of_lt_of_le hc (by decide), ?_⟩
              have E := ext_mut (o := .lst (ws ++ [v])) S ha
              exact h _ _ _ E (S.mut (m := .lst (xs ++ [y])) ha ⟨_, upd_same, Paired.append q2 (.cons r .nil)⟩) _ .non
            · exact h.elim
          | _ => exact h.elim
end

/-! ### loops -/
section
variable {G : Ga} {W : L2.WX} {X : Cx}
structure Its where
  xs : List Va
  gd : Option (Nat × List Va) := none
def gOk : Option (Nat × List Va) → Sto → Prop
  | none, _ => True
  | some (n, xs), st => st[n]? = some (.lst xs)
abbrev MI := Ev → Sto → Res Its
abbrev Pre (ad0 ad : List Addr) : Prop := ∃ zs, ad = ad0 ++ zs
structure WalkR (G : Ga) (J : It) (F0 : Hp) (ad0 : List Addr) (it : Its) : Prop where
  goes : ∀ (i : Nat) (H F : Hp) (ad : List Addr) (st : Sto), Same F0 F → Pre ad0 ad → SR G H F ad st → gOk it.gd st → i < it.xs.length → J.go i H
  stops : ∀ (H F : Hp) (ad : List Addr) (st : Sto), Same F0 F → Pre ad0 ad → SR G H F ad st → gOk it.gd st → J.stop it.xs.length H
  yields : ∀ (i : Nat) (H F : Hp) (ad : List Addr) (st : Sto) (v : V) (H' : Hp), Same F0 F → Pre ad0 ad → SR G H F ad st → gOk it.gd st → i < it.xs.length → J.yld i H v H' →
    ∃ F' x, Ext H F ad H' F' ad ∧ SR G H' F' ad st ∧ it.xs[i]? = some x ∧ RepV G F' ad v x
def SimI (G : Ga) (W : L2.WX) (t : TI) (m : MI) : Prop := ∀ (σ : L2.St) (ρ : Ev) (H F : Hp) (ad : List Addr) (st : Sto) (R : It → Hp → Prop), RelE G F ad σ ρ → SR G H F ad st →
  Po G (fun c d H' => W c d σ H') H F ad (fun it _ H' F' ad' => ∀ J, WalkR G J F' ad' it → R J H') (m ρ st) → t σ H R
def DI (G : Ga) (W : L2.WX) (X : Cx) (tg e : Expr) (m : MI) : Prop := ∃ t, PI X tg e t ∧ SimI G W t m
/-- what is walked may be a list or a tuple -/
def SeqIt (K : PySem.W.Frag) (a : Addr) (H : Hp) (J : It) : Prop := ((∃ xs, SqL K H a xs) ∧ J = Itl K a) ∨ ((∃ xs, SqT K H a xs) ∧ J = Itt K a)
def iSeq (K : PySem.W.Frag) (tl : TE) : TI := fun σ H R => tl σ H fun x H1 => ∃ a, x = .ref a ∧ ∃ J, SeqIt K a H1 J ∧ R J H1
theorem pi_seq {tg l : Expr} {tl : TE} (hl : PE X l tl) : PI X tg l (iSeq X.K tl) := by
  refine ⟨fun pins s σ H R I h => ?_⟩
  refine thn (hl.run pins s σ H _ I h) fun v s1 ⟨x, H1, I1, r1, q1⟩ => ?_
  obtain ⟨a, e, J, hJ, q⟩ := q1
  subst e
  cases r1
  rcases hJ with ⟨⟨xs, hq⟩, rfl⟩ | ⟨⟨xs, hq⟩, rfl⟩
  · obtain ⟨its, rv, p, hz⟩ := I1.list hq
    refine wpAny_pyIter_list p.isList ?_
    refine ⟨s1.heap.objs.size, [s1.heap.objs.size], _, _, H1, rfl, I1.kept (t' := s1.toks) fun b o e => Heap.get?_push_of_some _ e, turn_list a _, ⟨_, Heap.get?_push_size _ rfl, rfl, rfl⟩, fun b hb => ?_, q⟩
    have e : b = s1.heap.objs.size := by simpa using hb
    subst e
    exact I1.fpOk (Nat.le_refl _) (I1.hok.fresh (Nat.le_refl _))
  · obtain ⟨its, rv, p, hz⟩ := I1.tuple hq
    refine wpAny_pyIter_tuple (show s1.heap.IsTuple a its.toArray from p) ?_
    refine ⟨s1.heap.objs.size, [s1.heap.objs.size], _, _, H1, rfl, I1.kept (t' := s1.toks) fun b o e => Heap.get?_push_of_some _ e, turn_tuple a _, ⟨_, Heap.get?_push_size _ rfl, rfl, rfl⟩, fun b hb => ?_, q⟩
    have e : b = s1.heap.objs.size := by simpa using hb
    subst e
    exact I1.fpOk (Nat.le_refl _) (I1.hok.fresh (Nat.le_refl _))
def itSeq : Va → Sto → Option Its
  | .d (.lst xs), _ => some ⟨xs.map Va.d, none⟩
  | .d (.tup xs), _ => some ⟨xs.map Va.d, none⟩
  | .ref n, st => match st[n]? with
    | some (.lst xs) => some ⟨xs, some (n, xs)⟩
    | _ => none
  | _, _ => none
def mItS (a : ME) : MI := fun ρ st => (a ρ st).bind fun x st => match itSeq x st with
  | some it => .ok it st
  | none => .bad
theorem walkR_list {F0 : Hp} {ad0 : List Addr} {a : Addr} {vs : List V} {ds : List D} (h : F0 a = some (.lst vs)) (t : Reps G F0 vs ds) : WalkR G (Itl G.K a) F0 ad0 ⟨ds.map Va.d, none⟩ := by
  have wk := walk_list (K := G.K) (a := a) (xs := vs)
  have sq : ∀ {H F : Hp} {ad : List Addr} {st : Sto}, Same F0 F → SR G H F ad st → SqL G.K H a vs := fun s S => SqL.of (S.sub _ _ (s _ _ h))
  have hl : (ds.map Va.d).length = vs.length := by rw [List.length_map, t.length]
  refine ⟨fun i H F ad st s _ S _ hi => wk.goes i H (by rw [← hl]; exact hi) (sq s S), fun H F ad st s _ S _ => by show Itl G.K a |>.stop _ _; rw [hl]; exact wk.stops H (sq s S), fun i H F ad st v H' s _ S _ hi y => ?_⟩
  obtain ⟨e, hv⟩ := wk.yields i H v H' (by rw [← hl]; exact hi) (sq s S) y
  subst e
  have hi2 : i < ds.length := by simpa using hi
  obtain ⟨w, hw, r⟩ := t.get (List.getElem?_eq_getElem hi2)
  rw [hv] at hw
  cases hw
  exact ⟨F, .d ds[i], Ext.refl, S, by simp [List.getElem?_map, List.getElem?_eq_getElem hi2], Rep.same s r⟩
theorem walkR_tup {F0 : Hp} {ad0 : List Addr} {a : Addr} {vs : List V} {ds : List D} (h : SqT G.K F0 a vs) (t : Reps G F0 vs ds) : WalkR G (Itt G.K a) F0 ad0 ⟨ds.map Va.d, none⟩ := by
  have wk := walk_tup (K := G.K) (a := a) (xs := vs)
  have sq : ∀ {H F : Hp} {ad : List Addr} {st : Sto}, Same F0 F → SR G H F ad st → SqT G.K H a vs := fun s S => sqT_same S.sub (sqT_same s h)
  have hl : (ds.map Va.d).length = vs.length := by rw [List.length_map, t.length]
  refine ⟨fun i H F ad st s _ S _ hi => wk.goes i H (by rw [← hl]; exact hi) (sq s S), fun H F ad st s _ S _ => by show Itt G.K a |>.stop _ _; rw [hl]; exact wk.stops H (sq s S), fun i H F ad st v H' s _ S _ hi y => ?_⟩
  obtain ⟨e, hv⟩ := wk.yields i H v H' (by rw [← hl]; exact hi) (sq s S) y
  subst e
  have hi2 : i < ds.length := by simpa using hi
  obtain ⟨w, hw, r⟩ := t.get (List.getElem?_eq_getElem hi2)
  rw [hv] at hw
  cases hw
  exact ⟨F, .d ds[i], Ext.refl, S, by simp [List.getElem?_map, List.getElem?_eq_getElem hi2], Rep.same s r⟩
theorem walkR_cell {F0 : Hp} {ad0 : List Addr} {a : Addr} {n : Nat} {xs : List Va} (h : ad0[n]? = some a) : WalkR G (Itl G.K a) F0 ad0 ⟨xs, some (n, xs)⟩ := by
  have sq : ∀ {H F : Hp} {ad : List Addr} {st : Sto}, Pre ad0 ad → SR G H F ad st → gOk (some (n, xs)) st → ∃ vs, H a = some (.lst vs) ∧ RepVs G F ad vs xs := fun {H F ad st} p S g => by
    obtain ⟨zs, rfl⟩ := p
    exact S.get (by rw [List.getElem?_append_left (List.getElem?_eq_some_iff.mp h).1]; exact h) g
  refine ⟨fun i H F ad st s p S g hi => ?_, fun H F ad st s p S g => ?_, fun i H F ad st v H' s p S g hi y => ?_⟩
  · obtain ⟨vs, h1, h2⟩ := sq p S g
    exact (walk_list (K := G.K) (a := a) (xs := vs)).goes i H (by rw [Paired.length h2]; exact hi) (SqL.of h1)
  · obtain ⟨vs, h1, h2⟩ := sq p S g
    have := (walk_list (K := G.K) (a := a) (xs := vs)).stops H (SqL.of h1)
    rw [Paired.length h2] at this
    exact this
  · obtain ⟨vs, h1, h2⟩ := sq p S g
    obtain ⟨e, hv⟩ := (walk_list (K := G.K) (a := a) (xs := vs)).yields i H v H' (by rw [Paired.length h2]; exact hi) (SqL.of h1) y
    subst e
    obtain ⟨w, hw, r⟩ := Paired.getR h2 i _ (List.getElem?_eq_getElem hi)
    rw [hv] at hw
    cases hw
    exact ⟨F, _, Ext.refl, S, List.getElem?_eq_getElem hi, r⟩
theorem di_seq {tg e : Expr} {m : ME} (hK : X.K = G.K) (he : DE G W X e m) : DI G W X tg e (mItS m) := by
  obtain ⟨t, p, s⟩ := he
  refine ⟨_, pi_seq p, ?_⟩
  rw [hK]
  intro σ ρ H F ad st R Re S h
  refine simE_bind s Re S h fun x v st1 H1 F1 ad1 _ R1 S1 rv h1 => ?_
  cases z : itSeq x st1 with
  | none => rw [z] at h1; exact h1.elim
  | some it =>
    rw [z] at h1
    have h1 := fin_same S1 h1
    cases x with
    | ref n =>
      obtain ⟨a, ha, rfl⟩ := rv
      replace z : (match st1[n]? with
        | some (.lst xs) => some ⟨xs, some (n, xs)⟩
        | _ => none) = some it := z
      cases zz : st1[n]? with
      | none => rw [zz] at z; cases z
      | some ob =>
        rw [zz] at z
        cases ob with
        | lst xs =>
          cases z
          obtain ⟨vs, q1, q2⟩ := S1.get ha zz
          exact ⟨a, rfl, _, .inl ⟨⟨vs, SqL.of q1⟩, rfl⟩, h1 _ (walkR_cell ha)⟩
        | _ => cases z
    | d x => cases rv with
      | @lst a vs ds q t => cases z; exact ⟨a, rfl, _, .inl ⟨⟨vs, SqL.of (S1.sub _ _ q)⟩, rfl⟩, h1 _ (walkR_list q t)⟩
      | @tup a vs ds q t => cases z; exact ⟨a, rfl, _, .inr ⟨⟨vs, sqT_same S1.sub q⟩, rfl⟩, h1 _ (walkR_tup q t)⟩
      | _ => cases z
/-! ranges -/
def rangeV (lo : Int) (n : Nat) : List Va := (List.range n).map fun (i : Nat) => Va.d (.int (lo + i))
theorem walkR_range {F0 : Hp} {ad0 : List Addr} {lo : Int} {n : Nat} : WalkR G (Itr lo n) F0 ad0 ⟨rangeV lo n, none⟩ := by
  have wk := walk_range (lo := lo) (n := n)
  have hl : (rangeV lo n).length = n := by unfold rangeV; rw [List.length_map, List.length_range]
  refine ⟨fun i H F ad st s _ S _ hi => wk.goes i H (by rw [← hl]; exact hi) trivial, fun H F ad st s _ S _ => by show Itr lo n |>.stop _ _; rw [hl]; exact wk.stops H trivial, fun i H F ad st v H' s _ S _ hi y => ?_⟩
  have hi : i < n := by rw [← hl]; exact hi
  obtain ⟨e, hv⟩ := wk.yields i H v H' hi trivial y
  subst e hv
  refine ⟨F, .d (.int (lo + i)), Ext.refl, S, ?_, .int _⟩
  unfold rangeV
  rw [List.getElem?_map, List.getElem?_range hi]
  rfl
def inR (i : Int) : Bool := decide (-1000000000 ≤ i) && decide (i ≤ 1000000000)
def mItR1 (m : MA) : MI := fun ρ st => (m ρ st).bind fun xs st => match xs with
  | [.d (.int j)] => if inR j then .ok ⟨rangeV 0 j.toNat, none⟩ st else .bad
  | _ => .bad
def mItR2 (m : MA) : MI := fun ρ st => (m ρ st).bind fun xs st => match xs with
  | [.d (.int i), .d (.int j)] => if inR i && inR j then .ok ⟨rangeV i (j - i).toNat, none⟩ st else .bad
  | _ => .bad
theorem inR_ok {i : Int} (h : inR i = true) : -(2 ^ 62) ≤ i ∧ i < 2 ^ 62 := by
  unfold inR at h
  rw [Bool.and_eq_true] at h
  have h1 := of_decide_eq_true h.1
  have h2 := of_decide_eq_true h.2
  omega
theorem di_range1 {tg s : Expr} {es : List Expr} {m : MA} (hp : ∀ {t : TA}, PA X es t → PI X tg s (iRng1 t)) (h : DA G W X es m) : DI G W X tg s (mItR1 m) := by
  obtain ⟨t, p, sm⟩ := h
  refine ⟨_, hp p, ?_⟩
  intro σ ρ H F ad st R Re S h
  refine simA_bind sm Re S h fun xs vs st1 H1 F1 ad1 _ R1 S1 rv h1 => ?_
  match xs, rv, h1 with
  | [], _, h1 => exact h1.elim
  | [.ref _], _, h1 => exact h1.elim
  | [.d x], .cons r .nil, h1 =>
    cases r with
    | int j =>
      have h1 : Po G _ H1 F1 ad1 _ (if inR j then Res.ok (Its.mk (rangeV 0 j.toNat) none) st1 else .bad) := h1
      split at h1
      · rename_i hc
        obtain ⟨a, b⟩ := inR_ok hc
        exact ⟨j, rfl, a, b, fin_same S1 h1 _ walkR_range⟩
      · exact h1.elim
    | _ => exact h1.elim
  | .ref _ :: _ :: _, _, h1 => exact h1.elim
  | .d x :: _ :: _, _, h1 => cases x <;> exact h1.elim
theorem di_range2 {tg s : Expr} {es : List Expr} {m : MA} (hp : ∀ {t : TA}, PA X es t → PI X tg s (iRng2 t)) (h : DA G W X es m) : DI G W X tg s (mItR2 m) := by
  obtain ⟨t, p, sm⟩ := h
  refine ⟨_, hp p, ?_⟩
  intro σ ρ H F ad st R Re S h
  refine simA_bind sm Re S h fun xs vs st1 H1 F1 ad1 _ R1 S1 rv h1 => ?_
  match xs, rv, h1 with
  | [], _, h1 => exact h1.elim
  | [.ref _], _, h1 => exact h1.elim
  | [.d x], _, h1 => cases x <;> exact h1.elim
  | [.ref _, _], _, h1 => exact h1.elim
  | [.d x, .ref _], _, h1 => cases x <;> exact h1.elim
  | [.d x, .d y], .cons r (.cons r2 .nil), h1 =>
    cases r with
    | int i => cases r2 with
      | int j =>
        have h1 : Po G _ H1 F1 ad1 _ (if inR i && inR j then Res.ok (Its.mk (rangeV i (j - i).toNat) none) st1 else .bad) := h1
        split at h1
        · rename_i hc
          rw [Bool.and_eq_true] at hc
          obtain ⟨a, b⟩ := inR_ok hc.1
          obtain ⟨c, d⟩ := inR_ok hc.2
          exact ⟨i, j, rfl, ⟨a, b, c, d⟩, fin_same S1 h1 _ walkR_range⟩
        · exact h1.elim
      | _ => exact h1.elim
    | _ => exact h1.elim
  | .ref _ :: _ :: _ :: _, _, h1 => exact h1.elim
  | .d x :: .ref _ :: _ :: _, _, h1 => cases x <;> exact h1.elim
  | .d x :: .d y :: _ :: _, _, h1 => cases x <;> (try exact h1.elim) <;> cases y <;> exact h1.elim
/-! a new pair each turn -/
theorem walkR_pair {J : It} {F0 : Hp} {ad0 : List Addr} {vs ws : Nat → Option V} {ds : List (D × D)} (G' : Hp → Prop) (wk : Walk J ds.length G' (YPair vs ws)) (hg : ∀ (H F : Hp) (ad : List Addr) (st : Sto), Same F0 F → SR G H F ad st → G' H)
    (hr : ∀ i d, ds[i]? = some d → ∀ x y, vs i = some x → ws i = some y → Rep G F0 x d.1 ∧ Rep G F0 y d.2) : WalkR G J F0 ad0 ⟨ds.map fun d => Va.d (.tup [d.1, d.2]), none⟩ := by
  have hl : (ds.map fun d => Va.d (.tup [d.1, d.2])).length = ds.length := List.length_map _
  refine ⟨fun i H F ad st s _ S _ hi => wk.goes i H (by rw [← hl]; exact hi) (hg _ _ _ _ s S), fun H F ad st s _ S _ => by show J.stop _ _; rw [hl]; exact wk.stops H (hg _ _ _ _ s S), fun i H F ad st v H' s _ S _ hi y => ?_⟩
  have hi : i < ds.length := by rw [← hl]; exact hi
  obtain ⟨T, x, z, rfl, hT, rfl, hx, hz⟩ := wk.yields i H v H' hi (hg _ _ _ _ s S) y
  obtain ⟨r1, r2⟩ := hr i _ (List.getElem?_eq_getElem hi) x z hx hz
  have E := ext_new S (o := .tup [x, z]) hT
  refine ⟨_, _, E, S.new hT, by rw [List.getElem?_map, List.getElem?_eq_getElem hi]; rfl, ?_⟩
  exact .tup (SqT.of upd_same) (.cons ((r1.same s).same E.fz) (.cons ((r2.same s).same E.fz) .nil))
def mItZ (m : MA) : MI := fun ρ st => (m ρ st).bind fun xs st => match xs with
  | [.d (.lst a), .d (.lst b)] => .ok ⟨(a.zip b).map fun d => Va.d (.tup [d.1, d.2]), none⟩ st
  | _ => .bad
theorem walkR_zip {F0 : Hp} {ad0 : List Addr} {p q : Addr} {vs ws : List V} {a b : List D} (h1 : F0 p = some (.lst vs)) (t1 : Reps G F0 vs a) (h2 : F0 q = some (.lst ws)) (t2 : Reps G F0 ws b) : WalkR G (Itz G.K p q) F0 ad0 ⟨(a.zip b).map fun d => Va.d (.tup [d.1, d.2]), none⟩ := by
  refine walkR_pair (ds := a.zip b) (fun H => SqL G.K H p vs ∧ SqL G.K H q ws) (walk_zip (by rw [List.length_zip, t1.length, t2.length])) (fun H F ad st s S => ⟨SqL.of (S.sub _ _ (s _ _ h1)), SqL.of (S.sub _ _ (s _ _ h2))⟩) fun i d e x y hx hy => ?_
  obtain ⟨e1, e2⟩ := List.getElem?_zip_eq_some.mp e
  obtain ⟨x', g1, r1⟩ := t1.get e1
  obtain ⟨y', g2, r2⟩ := t2.get e2
  rw [hx] at g1
  rw [hy] at g2
  cases g1
  cases g2
  exact ⟨r1, r2⟩
theorem di_zip {tg s : Expr} {es : List Expr} {m : MA} (hK : X.K = G.K) (hp : ∀ {t : TA}, PA X es t → PI X tg s (iZip X.K t)) (h : DA G W X es m) : DI G W X tg s (mItZ m) := by
  obtain ⟨t, p, sm⟩ := h
  refine ⟨_, hp p, ?_⟩
  rw [hK]
  intro σ ρ H F ad st R Re S h
  refine simA_bind sm Re S h fun xs vs st1 H1 F1 ad1 _ R1 S1 rv h1 => ?_
  match xs, rv, h1 with
  | [], _, h1 => exact h1.elim
  | [.ref _], _, h1 => exact h1.elim
  | [.d x], _, h1 => cases x <;> exact h1.elim
  | [.ref _, _], _, h1 => exact h1.elim
  | [.d x, .ref _], _, h1 => cases x <;> exact h1.elim
  | [.d x, .d y], .cons r (.cons r2 .nil), h1 =>
    cases r with
    | @lst pa ws da q1 t1 => cases r2 with
      | @lst pb us db q2 t2 =>
        exact ⟨pa, pb, ws, us, rfl, SqL.of (S1.sub _ _ q1), SqL.of (S1.sub _ _ q2), fin_same S1 h1 _ (walkR_zip q1 t1 q2 t2)⟩
      | _ => exact h1.elim
    | _ => exact h1.elim
  | .ref _ :: _ :: _ :: _, _, h1 => exact h1.elim
  | .d x :: .ref _ :: _ :: _, _, h1 => cases x <;> exact h1.elim
  | .d x :: .d y :: _ :: _, _, h1 => cases x <;> (try exact h1.elim) <;> cases y <;> exact h1.elim
/-! for -/
open Classical in
noncomputable def forM (gd : Option (Nat × List Va)) (tg : MG) (b : MS) : List Va → MS
  | [], ρ, st => if gOk gd st then .nx ρ st else .bad
  | x :: xs, ρ, st => if gOk gd st then (match tg x ρ with
    | some ρ1 => (match b ρ1 st with
      | .nx ρ2 st2 => forM gd tg b xs ρ2 st2
      | .ct ρ2 st2 => forM gd tg b xs ρ2 st2
      | .bk ρ2 st2 => .nx ρ2 st2
      | o => o)
    | none => .bad) else .bad
noncomputable def mFor (mi : MI) (tg : MG) (b : MS) : MS := fun ρ st => match mi ρ st with
  | .ok it st => forM it.gd tg b it.xs ρ st
  | .er c fs st => .er c fs ρ st
  | .bad => .bad
theorem Ext.pre' {H F H' F' : Hp} {ad ad' ad0 : List Addr} (p : Pre ad0 ad) (e : Ext H F ad H' F' ad') : Pre ad0 ad' := by
  obtain ⟨zs, rfl⟩ := p
  obtain ⟨ys, h⟩ := e.pre
  exact ⟨zs ++ ys, by rw [h, List.append_assoc]⟩
theorem sim_for {vs : List Nat} {wi : TI} {g : TG} {tb : TS} {mi : MI} {mg : MG} {mb : MS} (hi : SimI G W wi mi) (hg : SimG G vs g mg) (hb : SimS G W tb mb) : SimS G W (tFor wi g tb) (mFor mi mg mb) := by
  intro σ ρ H F ad st D Re S h
  refine hi σ ρ H F ad st _ Re S ?_
  unfold mFor at h
  revert h
  generalize mi ρ st = r
  intro h
  cases r with
  | bad => exact h
  | er c fs st1 => exact fun H' F' ad' cls d e S' z => h H' F' ad' σ cls d e S' (Re.ext e) z
  | ok it st1 =>
    intro H1 F1 ad1 e1 S1 J wk
    have h1 : PoS G W H1 F1 ad1 D (forM it.gd mg mb it.xs ρ st1) := PoS.from e1 h
    refine ⟨fun i m σ' H' => ∃ ρ' F' ad' st', Same F1 F' ∧ Pre ad1 ad' ∧ RelE G F' ad' σ' ρ' ∧ SR G H' F' ad' st' ∧ m = it.xs.length - i ∧ i ≤ it.xs.length ∧ PoS G W H' F' ad' D (forM it.gd mg mb (it.xs.drop i) ρ' st'), ⟨_, ρ, F1, ad1, st1, Same.refl _, ⟨[], (List.append_nil _).symm⟩, Re.ext e1, S1, rfl, Nat.zero_le _, h1⟩, ?_⟩
    rintro i m σ' H' ⟨ρ', F', ad', st', s', p', R', S', rfl, hle, hp⟩
    by_cases hlt : i < it.xs.length
    · have hd : it.xs.drop i = it.xs[i] :: it.xs.drop (i + 1) := List.drop_eq_getElem_cons hlt
      rw [hd] at hp
      unfold forM at hp
      split at hp
      · rename_i gk
        refine .inr ⟨wk.goes i H' F' ad' st' s' p' S' gk hlt, fun σ2 H2 => ∃ m', m' < it.xs.length - i ∧ ∃ ρ' F' ad' st', Same F1 F' ∧ Pre ad1 ad' ∧ RelE G F' ad' σ2 ρ' ∧ SR G H2 F' ad' st' ∧ m' = it.xs.length - (i + 1) ∧ i + 1 ≤ it.xs.length ∧ PoS G W H2 F' ad' D (forM it.gd mg mb (it.xs.drop (i + 1)) ρ' st'), fun σ2 H2 z => z, fun v H2 y => ?_⟩
        obtain ⟨F2, x, e2, S2, hx, rx⟩ := wk.yields i H' F' ad' st' v H2 s' p' S' gk hlt y
        rw [List.getElem?_eq_getElem hlt] at hx
        cases hx
        cases z : mg it.xs[i] ρ' with
        | none => rw [z] at hp; exact hp.elim
        | some ρ2 =>
          rw [z] at hp
          refine hg v _ σ' ρ' ρ2 H2 F2 ad' st' _ rx (R'.ext e2) S2 z fun σ3 _ R3 => ?_
          refine hb σ3 ρ2 H2 F2 ad' st' _ R3 S2 ?_
          replace hp : PoS G W H' F' ad' D (match mb ρ2 st' with
            | .nx ρ2 st2 => forM it.gd mg mb (it.xs.drop (i + 1)) ρ2 st2
            | .ct ρ2 st2 => forM it.gd mg mb (it.xs.drop (i + 1)) ρ2 st2
            | .bk ρ2 st2 => .nx ρ2 st2
            | o => o) := hp
          replace hp := PoS.from e2 hp
          have s2 : Same F1 F2 := s'.trans e2.fz
          revert hp
          generalize mb ρ2 st' = o
          intro hp
          cases o with
          | nx ρ3 st3 => exact fun H4 F4 ad4 σ4 e4 S4 R4 => ⟨_, by omega, ρ3, F4, ad4, st3, s2.trans e4.fz, Ext.pre' p' e4, R4, S4, rfl, hlt, PoS.from e4 hp⟩
          | ct ρ3 st3 => exact fun H4 F4 ad4 σ4 e4 S4 R4 => ⟨_, by omega, ρ3, F4, ad4, st3, s2.trans e4.fz, Ext.pre' p' e4, R4, S4, rfl, hlt, PoS.from e4 hp⟩
          | bk ρ3 st3 => exact hp
          | rt v3 st3 => exact hp
          | er c3 fs3 ρ3 st3 => exact hp
          | bad => exact hp
      · exact hp.elim
    · have e : i = it.xs.length := by omega
      subst e
      rw [List.drop_length] at hp
      unfold forM at hp
      split at hp
      · rename_i gk
        exact .inl ⟨wk.stops H' F' ad' st' s' p' S' gk, hp H' F' ad' σ' Ext.refl S' R'⟩
      · exact hp.elim
theorem ds_for {vs : List Nat} {tg iter : Expr} {body : List Stmt} {pos : Pos} {mi : MI} {mg : MG} {mb : MS} (hp : PassesOwn (model X.prog X.w) X.A X.env X.xe) (hc : X.calm = true) (hi : DI G W X tg iter mi) (hg : DG G X vs tg mg) (hb : DSs G W X body mb)
    (hs : ∀ x, foldedSetIterable iter X.env x = pure x := by intro _; rfl) : DS G W X (.For tg iter body [] pos) (mFor mi mg mb) := by
  obtain ⟨wi, pi, si⟩ := hi
  obtain ⟨g, pg, sg⟩ := hg
  obtain ⟨tb, pb, sb⟩ := hb
  exact ⟨_, ps_for hp hc pi pg pb hs, sim_for si sg sb⟩
/-! while -/
def whileF (c : MT) (b : MS) : Nat → MS
  | 0, _, _ => .bad
  | n + 1, ρ, st => outT (c ρ st) ρ fun x st => if x then (match b ρ st with
    | .nx ρ st => whileF c b n ρ st
    | .ct ρ st => whileF c b n ρ st
    | .bk ρ st => .nx ρ st
    | o => o) else .nx ρ st
theorem whileF_succ {c : MT} {b : MS} : ∀ {n : Nat} {ρ : Ev} {st : Sto}, whileF c b n ρ st ≠ .bad → whileF c b (n + 1) ρ st = whileF c b n ρ st
  | 0, _, _, h => absurd rfl h
  | n + 1, ρ, st, h => by
    rw [whileF] at h
    rw [whileF.eq_2 c b ρ st (n + 1), whileF.eq_2 c b ρ st n]
    revert h
    generalize c ρ st = r
    intro h
    cases r with
    | bad => rfl
    | er c fs st1 => rfl
    | ok x st1 =>
      cases x with
      | false => rfl
      | true =>
        simp only [outT, if_true] at h ⊢
        revert h
        generalize b ρ st1 = o
        intro h
        cases o with
        | nx ρ2 st2 => exact whileF_succ h
        | ct ρ2 st2 => exact whileF_succ h
        | _ => rfl
theorem whileF_le {c : MT} {b : MS} {n : Nat} {ρ : Ev} {st : Sto} (h : whileF c b n ρ st ≠ .bad) : ∀ k, whileF c b (n + k) ρ st = whileF c b n ρ st
  | 0 => rfl
  | k + 1 => by
    have e := whileF_le h k
    rw [← Nat.add_assoc, whileF_succ (by rw [e]; exact h), e]
open Classical in
noncomputable def mWhile (c : MT) (b : MS) : MS := fun ρ st => if h : ∃ n, whileF c b n ρ st ≠ .bad then whileF c b (Classical.choose h) ρ st else .bad
theorem mWhile_eq {c : MT} {b : MS} {n : Nat} {ρ : Ev} {st : Sto} (h : whileF c b n ρ st ≠ .bad) : mWhile c b ρ st = whileF c b n ρ st := by
  unfold mWhile
  rw [dif_pos ⟨n, h⟩]
  have h2 := Classical.choose_spec (⟨n, h⟩ : ∃ n, whileF c b n ρ st ≠ .bad)
  generalize Classical.choose (⟨n, h⟩ : ∃ n, whileF c b n ρ st ≠ .bad) = k at h2
  rw [← whileF_le h2 n, ← whileF_le h k, Nat.add_comm]
theorem mWhile_none {c : MT} {b : MS} {ρ : Ev} {st : Sto} (h : mWhile c b ρ st ≠ .bad) : ∃ n, mWhile c b ρ st = whileF c b n ρ st := by
  by_cases e : ∃ n, whileF c b n ρ st ≠ .bad
  · obtain ⟨n, e⟩ := e
    exact ⟨n, mWhile_eq e⟩
  · exact absurd (by unfold mWhile; rw [dif_neg e]) h
/-- one turn -/
theorem mWhile_step (c : MT) (b : MS) (ρ : Ev) (st : Sto) : mWhile c b ρ st = outT (c ρ st) ρ fun x st => if x then (match b ρ st with
    | .nx ρ st => mWhile c b ρ st
    | .ct ρ st => mWhile c b ρ st
    | .bk ρ st => .nx ρ st
    | o => o) else .nx ρ st := by
  have one : ∀ n, whileF c b (n + 1) ρ st = outT (c ρ st) ρ fun x st => if x then (match b ρ st with
    | .nx ρ st => whileF c b n ρ st
    | .ct ρ st => whileF c b n ρ st
    | .bk ρ st => .nx ρ st
    | o => o) else .nx ρ st := fun n => by rw [whileF]
  by_cases e : ∃ n, whileF c b n ρ st ≠ .bad
  · obtain ⟨n, e⟩ := e
    rw [mWhile_eq e]
    cases n with
    | zero => exact absurd rfl e
    | succ n =>
      rw [one n] at e ⊢
      revert e
      generalize c ρ st = r
      intro e
      cases r with
      | bad => rfl
      | er c fs st1 => rfl
      | ok x st1 =>
        cases x with
        | false => rfl
        | true =>
          simp only [outT, if_true] at e ⊢
          revert e
          generalize b ρ st1 = o
          intro e
          cases o with
          | nx ρ2 st2 => exact (mWhile_eq e).symm
          | ct ρ2 st2 => exact (mWhile_eq e).symm
          | _ => rfl
  · have hb : ∀ n, whileF c b n ρ st = .bad := fun n => Classical.byContradiction fun z => e ⟨n, z⟩
    have hm : mWhile c b ρ st = .bad := by unfold mWhile; rw [dif_neg e]
    rw [hm]
    have h2 : ∀ n, (outT (c ρ st) ρ fun x st => if x then (match b ρ st with
      | .nx ρ st => whileF c b n ρ st
      | .ct ρ st => whileF c b n ρ st
      | .bk ρ st => .nx ρ st
      | o => o) else .nx ρ st) = .bad := fun n => by rw [← one n]; exact hb (n + 1)
    revert h2
    generalize c ρ st = r
    intro h2
    cases r with
    | bad => rfl
    | er c fs st1 => exact (h2 0).symm
    | ok x st1 =>
      cases x with
      | false => exact (h2 0).symm
      | true =>
        simp only [outT, if_true] at h2 ⊢
        revert h2
        generalize b ρ st1 = o
        intro h2
        have go : ∀ ρ2 st2, (∀ n, whileF c b n ρ2 st2 = .bad) → mWhile c b ρ2 st2 = .bad := fun ρ2 st2 z => by
          unfold mWhile
          rw [dif_neg fun ⟨n, hn⟩ => hn (z n)]
        cases o with
        | nx ρ2 st2 => exact (go ρ2 st2 h2).symm
        | ct ρ2 st2 => exact (go ρ2 st2 h2).symm
        | _ => exact (h2 0).symm
theorem sim_while {tc : TT} {tb : TS} {mc : MT} {mb : MS} (hc : SimT G W tc mc) (hb : SimS G W tb mb) : SimS G W (tWhile tc tb) (mWhile mc mb) := by
  intro σ ρ H F ad st D Re S h
  by_cases e0 : mWhile mc mb ρ st = .bad
  · rw [e0] at h
    exact h.elim
  obtain ⟨n, en⟩ := mWhile_none e0
  rw [en] at h
  refine ⟨fun m σ' H' => ∃ ρ' F' ad' st', RelE G F' ad' σ' ρ' ∧ SR G H' F' ad' st' ∧ PoS G W H' F' ad' D (whileF mc mb m ρ' st'), ⟨n, ρ, F, ad, st, Re, S, h⟩, ?_⟩
  rintro m σ' H' ⟨ρ', F', ad', st', R', S', hp⟩
  cases m with
  | zero => exact hp.elim
  | succ m =>
    rw [whileF] at hp
    refine simT_out hc R' S' hp fun x st1 H1 F1 ad1 _ R1 S1 h1 => ?_
    cases x with
    | false => rw [if_neg Bool.false_ne_true] at h1 ⊢; exact h1 H1 F1 ad1 σ' Ext.refl S1 R1
    | true =>
      rw [if_pos rfl] at h1 ⊢
      refine ⟨fun σ2 H2 => ∃ m', m' < m + 1 ∧ ∃ ρ' F' ad' st', RelE G F' ad' σ2 ρ' ∧ SR G H2 F' ad' st' ∧ PoS G W H2 F' ad' D (whileF mc mb m' ρ' st'), fun σ2 H2 z => z, ?_⟩
      refine hb σ' ρ' H1 F1 ad1 st1 _ R1 S1 ?_
      revert h1
      generalize mb ρ' st1 = o
      intro h1
      cases o with
      | nx ρ3 st3 => exact fun H4 F4 ad4 σ4 e4 S4 R4 => ⟨m, by omega, ρ3, F4, ad4, st3, R4, S4, PoS.from e4 h1⟩
      | ct ρ3 st3 => exact fun H4 F4 ad4 σ4 e4 S4 R4 => ⟨m, by omega, ρ3, F4, ad4, st3, R4, S4, PoS.from e4 h1⟩
      | bk ρ3 st3 => exact h1
      | rt v3 st3 => exact h1
      | er c3 fs3 ρ3 st3 => exact h1
      | bad => exact h1
theorem ds_while {c : Expr} {body : List Stmt} {pos : Pos} {mc : MT} {mb : MS} (hp : PassesOwn (model X.prog X.w) X.A X.env X.xe) (hc : DT G W X c mc) (hb : DSs G W X body mb) : DS G W X (.While c body [] pos) (mWhile mc mb) := by
  obtain ⟨tc, pc, sc⟩ := hc
  obtain ⟨tb, pb, sb⟩ := hb
  exact ⟨_, ps_while hp pc pb, sim_while sc sb⟩
end

/-! ### comprehensions -/
section
variable {G : Ga} {W : L2.WX} {X : Cx}
theorem uniE {ι : Type} {Y : ι → Cx} {e : Expr} {m : ME} (h : ∀ i, DE G W (Y i) e m) : ∃ t, (∀ i, PE (Y i) e t) ∧ SimE G W t m := by
  refine ⟨fun σ H Q => ∀ i, ∃ t, PE (Y i) e t ∧ t σ H Q, fun i => ⟨fun pins s σ H Q I z => ?_⟩, fun σ ρ H F ad st Q R S z i => ?_⟩
  · obtain ⟨t, p, z⟩ := z i
    exact p.run pins s σ H Q I z
  · obtain ⟨t, p, s⟩ := h i
    exact ⟨t, p, s σ ρ H F ad st Q R S z⟩
def DTs (G : Ga) (W : L2.WX) (X : Cx) (es : List Expr) (m : MT) : Prop := ∃ t, PTs X es t ∧ SimT G W t m
def mYes : MT := fun _ st => .ok true st
theorem dts_nil : DTs G W X [] mYes := ⟨_, pts_nil, fun σ ρ H F ad st Q R S h => fin_same S h⟩
theorem dts_one {c : Expr} {m : MT} (h : DT G W X c m) : DTs G W X [c] m := by
  obtain ⟨t, p, s⟩ := h
  exact ⟨t, pts_one p, s⟩
theorem uniT {ι : Type} {Y : ι → Cx} {e : List Expr} {m : MT} (h : ∀ i, DTs G W (Y i) e m) : ∃ t, (∀ i, PTs (Y i) e t) ∧ SimT G W t m := by
  refine ⟨fun σ H Q => ∀ i, ∃ t, PTs (Y i) e t ∧ t σ H Q, fun i => ⟨fun pins s σ H Q I z => ?_⟩, fun σ ρ H F ad st Q R S z i => ?_⟩
  · obtain ⟨t, p, z⟩ := z i
    exact p.run pins s σ H Q I z
  · obtain ⟨t, p, s⟩ := h i
    exact ⟨t, p, s σ ρ H F ad st Q R S z⟩
theorem uniSs {ι : Type} {Y : ι → Cx} {e : List Stmt} {m : MS} (h : ∀ i, DSs G W (Y i) e m) : ∃ t, (∀ i, PSs (Y i) e t) ∧ SimS G W t m := by
  refine ⟨fun D σ H => ∀ i, ∃ t, PSs (Y i) e t ∧ t D σ H, fun i => ⟨fun pins s σ H D I z => ?_⟩, fun σ ρ H F ad st D R S z i => ?_⟩
  · obtain ⟨t, p, z⟩ := z i
    exact p.run pins s σ H D I z
  · obtain ⟨t, p, s⟩ := h i
    exact ⟨t, p, s σ ρ H F ad st D R S z⟩
theorem uniG {ι : Type} {Y : ι → Cx} {vs : List Nat} {e : Expr} {m : MG} (h : ∀ i, DG G (Y i) vs e m) : ∃ t, (∀ i, PG (Y i) e t) ∧ SimG G vs t m := by
  refine ⟨fun v σ H Q => ∀ i, ∃ t, PG (Y i) e t ∧ t v σ H Q, fun i => ⟨fun pins s σ H v u Q I r z => ?_⟩, fun v x σ ρ ρ' H F ad st Q r R S z q i => ?_⟩
  · obtain ⟨t, p, z⟩ := z i
    exact p.run pins s σ H v u Q I r z
  · obtain ⟨t, p, s⟩ := h i
    exact ⟨t, p, s v x σ ρ ρ' H F ad st Q r R S z q⟩
def wipeE (ρ : Ev) : List Nat → Ev
  | [] => ρ
  | i :: is => wipeE (ρ.set i none) is
theorem wipeE_len : ∀ {is : List Nat} {ρ : Ev}, (wipeE ρ is).length = ρ.length
  | [], _ => rfl
  | i :: is, ρ => by
    show (wipeE (ρ.set i none) is).length = _
    rw [wipeE_len, List.length_set]
theorem wipeE_some {i : Nat} {d : Va} : ∀ {is : List Nat} {ρ : Ev}, (wipeE ρ is)[i]? = some (some d) → ρ[i]? = some (some d) ∧ i ∉ is
  | [], _, h => ⟨h, by simp⟩
  | j :: is, ρ, h => by
    obtain ⟨h1, h2⟩ := wipeE_some (is := is) (ρ := ρ.set j none) h
    by_cases e : j = i
    · subst e
      have hl : j < ρ.length := by
        have := (List.getElem?_eq_some_iff.mp h1).1
        rw [List.length_set] at this
        exact this
      rw [List.getElem?_set_self hl] at h1
      cases h1
    · rw [List.getElem?_set_ne e] at h1
      exact ⟨h1, by simp [h2]; exact fun z => e z.symm⟩
theorem stb_wipe (hs : G.Stb) {F : Hp} {ad : List Addr} : ∀ {vs : List Nat} {σ : L2.St}, G.jv F ad σ → G.jv F ad (wipe σ vs)
  | [], σ, h => h
  | i :: vs, σ, h => by
    first
      | exact stb_wipe hs (vs := vs) (hs _ _ _ i none h)
      | (unfold wipe; exact stb_wipe hs (vs := vs) (hs _ _ _ i none h))
      | (unfold wipe; exact hs _ _ _ i none (stb_wipe hs (vs := vs) h))
theorem RelE.wipe {F : Hp} {ad : List Addr} {σ : L2.St} {ρ : Ev} {vs : List Nat} (hs : G.Stb) (R : RelE G F ad σ ρ) : RelE G F ad (L2.wipe σ vs) (wipeE ρ vs) := by
  refine ⟨by rw [wipe_length, wipeE_len, R.len], fun i d e => ?_, stb_wipe hs R.j⟩
  obtain ⟨h1, h2⟩ := wipeE_some e
  obtain ⟨v, h3, h4⟩ := R.at_ i d h1
  exact ⟨v, by rw [wipe_out h2]; exact h3, h4⟩
theorem wipe_in {i : Nat} : ∀ {vs : List Nat} {σ : L2.St}, i ∈ vs → i < σ.length → (wipe σ vs)[i]? = some none
  | [], _, h, _ => by simp at h
  | j :: vs, σ, h, hl => by
    have key : (wipe σ (j :: vs))[i]? = (wipe (σ.set j none) vs)[i]? ∨ (wipe σ (j :: vs))[i]? = ((wipe σ vs).set j none)[i]? := by
      first
        | exact .inl rfl
        | exact .inr rfl
        | (unfold wipe; exact .inl rfl)
        | (unfold wipe; exact .inr rfl)
    by_cases hi : i ∈ vs
    · rcases key with k | k
      · rw [k]; exact wipe_in hi (by rw [List.length_set]; exact hl)
      · rw [k]
        by_cases e : j = i
        · subst e; rw [List.getElem?_set_self (by rw [wipe_length]; exact hl)]
        · rw [List.getElem?_set_ne e]; exact wipe_in hi hl
    · have e : i = j := by
        rcases List.mem_cons.mp h with e | e
        · exact e
        · exact absurd e hi
      subst e
      rcases key with k | k
      · rw [k, wipe_out hi, List.getElem?_set_self hl]
      · rw [k, List.getElem?_set_self (by rw [wipe_length]; exact hl)]
theorem wipe_agree {vs : List Nat} {σ σ2 : L2.St} (h : Agree vs (wipe σ vs) σ2) : wipe σ2 vs = wipe σ vs := by
  apply List.ext_getElem?
  intro i
  have hl : σ2.length = σ.length := by rw [h.1, wipe_length]
  by_cases hi : i ∈ vs
  · by_cases hn : i < σ.length
    · rw [wipe_in hi (by rw [hl]; exact hn), wipe_in hi hn]
    · rw [List.getElem?_eq_none (by rw [wipe_length]; omega), List.getElem?_eq_none (by rw [wipe_length]; omega)]
  · rw [wipe_out hi, h.2 i hi]
open Classical in
noncomputable def compM (gd : Option (Nat × List Va)) (tg : MG) (tt : MT) (te : ME) (ρ0 : Ev) : List Va → Sto → Res (List Va)
  | [], st => if gOk gd st then .ok [] st else .bad
  | x :: xs, st => if gOk gd st then (match tg x ρ0 with
    | some ρ => (noEr (tt ρ st)).bind fun b st => if b then (noEr (te ρ st)).bind fun y st => (compM gd tg tt te ρ0 xs st).bind fun ys st => .ok (y :: ys) st else compM gd tg tt te ρ0 xs st
    | none => .bad) else .bad
theorem Res.bind_assoc {α β γ : Type} (r : Res α) (f : α → Sto → Res β) (g : β → Sto → Res γ) : (r.bind f).bind g = r.bind fun a st => (f a st).bind g := by cases r <;> rfl
/-- an object that we do not know of may change -/
theorem SR.other {H F : Hp} {ad : List Addr} {st : Sto} {p : Addr} {o : HO} (S : SR G H F ad st) (hp : p ∉ ad) (hf : F p = none) : SR G (upd H p o) F ad st := by
  refine ⟨fun b u h => ?_, S.len, S.nd, S.dis, fun n a m h hm => ?_⟩
  · rw [upd_ne (ne_of_none h hf)]
    exact S.sub b u h
  · have ne : a ≠ p := fun e => hp (by rw [← e]; exact List.mem_of_getElem? h)
    have hz := S.ob n a m h hm
    cases m with
    | lst ds => obtain ⟨vs, z, r⟩ := hz; exact ⟨vs, by rw [upd_ne ne]; exact z, r⟩
    | obj c fs => obtain ⟨hc, dx, vfs, z, r⟩ := hz; exact ⟨hc, dx, vfs, by rw [upd_ne ne]; exact z, r⟩
    | dct kvs => obtain ⟨vs, z, r⟩ := hz; exact ⟨vs, by rw [upd_ne ne]; exact z, r⟩
    | dcn kvs => obtain ⟨vs, z, r⟩ := hz; exact ⟨vs, by rw [upd_ne ne]; exact z, r⟩
theorem Ext.other {H0 F0 H F : Hp} {ad0 ad : List Addr} {p : Addr} {o : HO} (e : Ext H0 F0 ad0 H F ad) (h0 : H0 p = none) : Ext H0 F0 ad0 (upd H p o) F ad := by
  refine ⟨e.pre, e.fz, fun b u hb h => ?_, fun b h => ?_, e.nw, e.na⟩
  · rw [upd_ne (ne_of_none h h0)]
    exact e.kp b u hb h
  · by_cases q : b = p
    · rw [q]; exact h0
    · rw [upd_ne q] at h; exact e.dm b h
theorem lc_run {J : It} {g : TG} {tt : TT} {te : TE} {vs : List Nat} {σ : L2.St} {ρ : Ev} {H1 F1 : Hp} {ad1 : List Addr} {st1 : Sto} {it : Its} {mg : MG} {mt : MT} {me : ME} {β : Type} {Wv : Value → Option Addr → Hp → Prop} {P : β → Sto → Hp → Hp → List Addr → Prop} {k : List Va → Sto → Res β} {L : Addr} {Q : Hp → Prop}
    (hs : G.Stb) (wk : WalkR G J F1 ad1 it) (hg : SimG G vs g mg) (ht : SimT G (fun _ _ _ _ => False) tt mt) (he : SimE G (fun _ _ _ _ => False) te me) (Re : RelE G F1 ad1 σ ρ) (S1 : SR G H1 F1 ad1 st1) (hL : H1 L = none) (hcap : it.xs.length ≤ cap)
    (h : Po G Wv H1 F1 ad1 P ((compM it.gd mg mt me (wipeE ρ vs) it.xs st1).bind k))
    (fin : ∀ H F ad st ys ws, Ext H1 F1 ad1 H F ad → SR G H F ad st → L ∉ ad → F L = none → H L = some (.lst ws) → RepVs G F ad ws ys → ys.length ≤ cap → Po G Wv H1 F1 ad1 P (k ys st) → Q H) :
    ∃ W : Nat → Nat → Hp → Prop, (∃ m, W 0 m (upd H1 L (.lst []))) ∧ ∀ i m H, W i m H →
      (J.stop i H ∧ Q H) ∨ (J.go i H ∧ ∃ Nx : Hp → Prop, (∀ H', Nx H' → ∃ m', m' < m ∧ W (i + 1) m' H') ∧ ∀ x H', J.yld i H x H' → g x (wipe σ vs) H' fun σ2 H2 => wipe σ2 vs = wipe σ vs ∧ tt σ2 H2 fun b H3 =>
        if b = true then te σ2 H3 fun y H4 => ∃ acc, H4 L = some (.lst acc) ∧ acc.length < sizeLine ∧ Nx (upd H4 L (.lst (acc ++ [y]))) else Nx H3) := by
  have fL : F1 L = none := S1.sub.free hL
  have aL : L ∉ ad1 := fun z => by
    obtain ⟨u, hu⟩ := S1.there z
    rw [hL] at hu
    cases hu
  let Wt : Nat → Hp → Prop := fun i H => ∃ F ad st ys ws, i ≤ it.xs.length ∧ Ext H1 F1 ad1 H F ad ∧ SR G H F ad st ∧ L ∉ ad ∧ F L = none ∧ H L = some (.lst ws) ∧ RepVs G F ad ws ys ∧ ys.length ≤ i ∧
    Po G Wv H1 F1 ad1 P ((compM it.gd mg mt me (wipeE ρ vs) (it.xs.drop i) st).bind fun zs st' => k (ys ++ zs) st')
  refine ⟨fun i m H => m = it.xs.length - i ∧ Wt i H, ⟨_, rfl, F1, ad1, st1, [], [], Nat.zero_le _, Ext.refl.other hL, S1.other aL fL, aL, fL, upd_same, .nil, Nat.le_refl _, h⟩, ?_⟩
  rintro i m H ⟨rfl, F, ad, st, ys, ws, hle, E, S, na, nf, hl, rw, hy, hp⟩
  have pre : Pre ad1 ad := E.pre
  by_cases hlt : i < it.xs.length
  · have hd : it.xs.drop i = it.xs[i] :: it.xs.drop (i + 1) := List.drop_eq_getElem_cons hlt
    rw [hd] at hp
    unfold compM at hp
    split at hp
    · rename_i gk
      refine .inr ⟨wk.goes i H F ad st E.fz pre S gk hlt, fun H' => ∃ m', m' < it.xs.length - i ∧ m' = it.xs.length - (i + 1) ∧ Wt (i + 1) H', fun H' z => z, fun v H' y => ?_⟩
      obtain ⟨F2, x, e2, S2, hx, rx⟩ := wk.yields i H F ad st v H' E.fz pre S gk hlt y
      rw [List.getElem?_eq_getElem hlt] at hx
      cases hx
      have keepL : ∀ {Ha Fa Hb Fb : Hp} {ada adb : List Addr} {zs : List V}, Ext Ha Fa ada Hb Fb adb → L ∉ ada → Fa L = none → Ha L = some (.lst zs) → L ∉ adb ∧ Fb L = none ∧ Hb L = some (.lst zs) := fun {Ha Fa Hb Fb ada adb zs} e n f hh => by
        refine ⟨fun z => ?_, ?_, e.kp _ _ n hh⟩
        · rcases e.na _ z with z | z
          · exact n z
          · rw [hh] at z; cases z
        · cases q : Fb L with
          | none => rfl
          | some o =>
            rcases e.nw _ _ q with z | z
            · rw [f] at z; cases z
            · rw [hh] at z; cases z
      obtain ⟨na2, nf2, hl2⟩ := keepL e2 na nf hl
      cases z : mg it.xs[i] (wipeE ρ vs) with
      | none => rw [z] at hp; exact hp.elim
      | some ρ2 =>
        rw [z] at hp
        have Rw : RelE G F2 ad (wipe σ vs) (wipeE ρ vs) := ((Re.ext E).wipe hs).ext e2
        refine hg v _ (wipe σ vs) (wipeE ρ vs) ρ2 H' F2 ad st _ rx Rw S2 z fun σ3 ag R3 => ⟨wipe_agree ag, ?_⟩
        refine ht σ3 ρ2 H' F2 ad st _ R3 S2 ?_
        replace hp : Po G Wv H1 F1 ad1 P (((noEr (mt ρ2 st)).bind fun b st => if b then (noEr (me ρ2 st)).bind fun y st => (compM it.gd mg mt me (wipeE ρ vs) (it.xs.drop (i + 1)) st).bind fun ys st => .ok (y :: ys) st else compM it.gd mg mt me (wipeE ρ vs) (it.xs.drop (i + 1)) st).bind fun zs st' => k (ys ++ zs) st') := hp
        revert hp
        generalize mt ρ2 st = rt
        intro hp
        cases rt with
        | bad => exact hp.elim
        | er c fs st' => exact hp.elim
        | ok b st2 =>
          intro H3 F3 ad3 e3 S3
          obtain ⟨na3, nf3, hl3⟩ := keepL e3 na2 nf2 hl2
          have rw3 : RepVs G F3 ad3 ws ys := RepVs.ext e3 (RepVs.ext e2 rw)
          have E3 := (E.trans e2).trans e3
          cases b with
          | false =>
            rw [if_neg Bool.false_ne_true]
            exact ⟨_, by omega, rfl, F3, ad3, st2, ys, ws, hlt, E3, S3, na3, nf3, hl3, rw3, by omega, hp⟩
          | true =>
            rw [if_pos rfl]
            refine he σ3 ρ2 H3 F3 ad3 st2 _ (R3.ext e3) S3 ?_
            replace hp : Po G Wv H1 F1 ad1 P (((noEr (me ρ2 st2)).bind fun y st => (compM it.gd mg mt me (wipeE ρ vs) (it.xs.drop (i + 1)) st).bind fun ys st => .ok (y :: ys) st).bind fun zs st' => k (ys ++ zs) st') := hp
            revert hp
            generalize me ρ2 st2 = ry
            intro hp
            cases ry with
            | bad => exact hp.elim
            | er c fs st' => exact hp.elim
            | ok y st3 =>
              intro H4 F4 ad4 e4 S4 w rw4
              obtain ⟨na4, nf4, hl4⟩ := keepL e4 na3 nf3 hl3
              refine ⟨ws, hl4, by rw [Paired.length rw3]; exact Nat.lt_of_le_of_lt hy (Nat.lt_of_lt_of_le hlt (Nat.le_trans hcap (by decide))), _, by omega, rfl, F4, ad4, st3, ys ++ [y], ws ++ [w], hlt, (E3.trans e4).other hL, S4.other na4 nf4, na4, nf4, upd_same, Paired.append (RepVs.ext e4 rw3) (.cons rw4 .nil), by rw [List.length_append]; simp; exact hy, ?_⟩
              replace hp : Po G Wv H1 F1 ad1 P (((compM it.gd mg mt me (wipeE ρ vs) (it.xs.drop (i + 1)) st3).bind fun ys st => .ok (y :: ys) st).bind fun zs st' => k (ys ++ zs) st') := hp
              rw [Res.bind_assoc] at hp
              have e : (fun (a : List Va) (st : Sto) => (Res.ok (y :: a) st).bind fun zs st' => k (ys ++ zs) st') = fun zs st' => k ((ys ++ [y]) ++ zs) st' := by
                funext a st'
                show k (ys ++ (y :: a)) st' = _
                rw [List.append_assoc]
                rfl
              rw [e] at hp
              exact hp
    · exact hp.elim
  · have e : i = it.xs.length := by omega
    subst e
    rw [List.drop_length] at hp
    unfold compM at hp
    split at hp
    · rename_i gk
      refine .inl ⟨wk.stops H F ad st E.fz pre S gk, fin H F ad st ys ws E S na nf hl rw (Nat.le_trans hy hcap) ?_⟩
      replace hp : Po G Wv H1 F1 ad1 P (k (ys ++ []) st) := hp
      rw [List.append_nil] at hp
      exact hp
    · exact hp.elim
noncomputable def mLcG (own : List Nat) (mi : MI) (tg : MG) (tt : MT) (te : ME) : MA := fun ρ st => (mi ρ st).bind fun it st => if it.xs.length ≤ cap then compM it.gd tg tt te (wipeE ρ own) it.xs st else .bad
noncomputable def mLc (own : List Nat) (mi : MI) (tg : MG) (tt : MT) (te : ME) : ME := fun ρ st => (mLcG own mi tg tt te ρ st).bind fun ys st => match ds? ys with
  | some ds => .ok (.d (.lst ds)) st
  | none => .bad
noncomputable def mLcC (own : List Nat) (mi : MI) (tg : MG) (tt : MT) (te : ME) : ME := fun ρ st => (mLcG own mi tg tt te ρ st).bind fun ys st => .ok (.ref st.length) (st ++ [.lst ys])
theorem simI_bind {tt : TI} {mt : MI} {β : Type} {P : β → Sto → Hp → Hp → List Addr → Prop} (ht : SimI G W tt mt) {k : Its → Sto → Res β} {σ : L2.St} {ρ : Ev} {H F : Hp} {ad : List Addr} {st : Sto} {Q : It → Hp → Prop} (R : RelE G F ad σ ρ) (S : SR G H F ad st)
    (h : Po G (fun c d H' => W c d σ H') H F ad P ((mt ρ st).bind k)) (q : ∀ x J st1 H1 F1 ad1, RelE G F1 ad1 σ ρ → SR G H1 F1 ad1 st1 → WalkR G J F1 ad1 x → Po G (fun c d H' => W c d σ H') H1 F1 ad1 P (k x st1) → Q J H1) : tt σ H Q := by
  refine ht σ ρ H F ad st _ R S ?_
  have h1 := Po.bind h
  revert h1
  generalize mt ρ st = ra
  intro h1
  cases ra with
  | bad => exact h1
  | er c fs st1 => exact h1
  | ok x st1 => exact fun H1 F1 ad1 e1 S1 J wk => q x J st1 H1 F1 ad1 (R.ext e1) S1 wk (h1 H1 F1 ad1 e1 S1)
theorem sim_lc {vs : List Nat} {wi : TI} {g : TG} {tt : TT} {te : TE} {mi : MI} {mg : MG} {mt : MT} {me : ME} (hs : G.Stb) (hi : SimI G W wi mi) (hg : SimG G vs g mg) (ht : SimT G (fun _ _ _ _ => False) tt mt) (he : SimE G (fun _ _ _ _ => False) te me) : SimE G W (tLc wi g tt te vs) (mLc vs mi mg mt me) := by
  intro σ ρ H F ad st Q Re S h
  unfold mLc mLcG at h
  rw [Res.bind_assoc] at h
  refine simI_bind hi Re S h fun it J st1 H1 F1 ad1 R1 S1 wk h1 => ?_
  intro L hL
  replace h1 : Po G _ H1 F1 ad1 (QV G Q) ((if it.xs.length ≤ cap then compM it.gd mg mt me (wipeE ρ vs) it.xs st1 else .bad).bind fun ys st => match ds? ys with
    | some ds => .ok (.d (.lst ds)) st
    | none => .bad) := h1
  split at h1
  · rename_i hc
    refine lc_run hs wk hg ht he R1 S1 hL hc h1 fun H2 F2 ad2 st2 ys ws E2 S2 na nf hl rw _ h2 => ?_
    cases z : ds? ys with
    | none => rw [z] at h2; exact h2.elim
    | some ds =>
      rw [z] at h2
      have sf : Same F2 (upd F2 L (.lst ws)) := fun b o hb => by rw [upd_ne (ne_of_none hb nf)]; exact hb
      have S3 : SR G H2 (upd F2 L (.lst ws)) ad2 st2 := by
        refine ⟨fun b o hb => ?_, S2.len, S2.nd, fun a ha => ?_, fun n a m ha hm => ?_⟩
        · by_cases e : b = L
          · rw [e, upd_same] at hb
            rw [e, hl]; exact hb
          · rw [upd_ne e] at hb; exact S2.sub b o hb
        · rw [upd_ne (fun e => na (by rw [← e]; exact ha))]
          exact S2.dis a ha
        · have hz := S2.ob n a m ha hm
          cases m with
          | lst ds => obtain ⟨vs, z, r⟩ := hz; exact ⟨vs, z, Paired.mono (fun v x hx => by cases x with | d x => exact Rep.same sf hx | ref n => exact hx) r⟩
          | obj c fs => obtain ⟨hc, dx, vfs, z, r⟩ := hz; exact ⟨hc, dx, vfs, z, Paired.mono (fun v x hx => ⟨hx.1, by obtain ⟨f, x⟩ := x; cases x with | d x => exact Rep.same sf hx.2 | ref n => exact hx.2⟩) r⟩
          | dct kvs => obtain ⟨vs, z, r⟩ := hz; exact ⟨vs, z, Paired.mono (fun v x hx => ⟨hx.1, by obtain ⟨f, x⟩ := x; cases x with | d x => exact Rep.same sf hx.2 | ref n => exact hx.2⟩) r⟩
          | dcn kvs => obtain ⟨vs, z, r⟩ := hz; exact ⟨vs, z, Paired.mono (fun v x hx => ⟨Rep.same sf hx.1, hx.2.1, by obtain ⟨f, x⟩ := x; cases x with | d x => exact Rep.same sf hx.2.2 | ref n => exact hx.2.2⟩) r⟩
      have E3 : Ext H1 F1 ad1 H2 (upd F2 L (.lst ws)) ad2 := by
        refine ⟨E2.pre, E2.fz.trans sf, E2.kp, E2.dm, fun b o hb => ?_, E2.na⟩
        by_cases e : b = L
        · rw [e]; exact .inr hL
        · rw [upd_ne e] at hb; exact E2.nw b o hb
      exact h2 _ _ _ E3 S3 _ (.lst upd_same ((repVs_ds rw z).same sf))
  · exact h1.elim
theorem sim_lcC {vs : List Nat} {wi : TI} {g : TG} {tt : TT} {te : TE} {mi : MI} {mg : MG} {mt : MT} {me : ME} (hs : G.Stb) (hi : SimI G W wi mi) (hg : SimG G vs g mg) (ht : SimT G (fun _ _ _ _ => False) tt mt) (he : SimE G (fun _ _ _ _ => False) te me) : SimE G W (tLc wi g tt te vs) (mLcC vs mi mg mt me) := by
  intro σ ρ H F ad st Q Re S h
  unfold mLcC mLcG at h
  rw [Res.bind_assoc] at h
  refine simI_bind hi Re S h fun it J st1 H1 F1 ad1 R1 S1 wk h1 => ?_
  intro L hL
  replace h1 : Po G _ H1 F1 ad1 (QV G Q) ((if it.xs.length ≤ cap then compM it.gd mg mt me (wipeE ρ vs) it.xs st1 else .bad).bind fun ys st => .ok (.ref st.length) (st ++ [.lst ys])) := h1
  split at h1
  · rename_i hc
    refine lc_run hs wk hg ht he R1 S1 hL hc h1 fun H2 F2 ad2 st2 ys ws E2 S2 na nf hl rw _ h2 => ?_
    have E3 : Ext H1 F1 ad1 H2 F2 (ad2 ++ [L]) := by
      obtain ⟨zs, ez⟩ := E2.pre
      refine ⟨⟨zs ++ [L], by rw [ez, List.append_assoc]⟩, E2.fz, E2.kp, E2.dm, E2.nw, fun b hb => ?_⟩
      rcases List.mem_append.mp hb with hb | hb
      · exact E2.na b hb
      · have : b = L := by simpa using hb
        rw [this]; exact .inr hL
    have up : ∀ {v : V} {x : Va}, RepV G F2 ad2 v x → RepV G F2 (ad2 ++ [L]) v x := fun {v x} hx => by
      cases x with
      | d x => exact hx
      | ref n =>
        obtain ⟨a, h1, h2⟩ := hx
        exact ⟨a, by rw [List.getElem?_append_left (List.getElem?_eq_some_iff.mp h1).1]; exact h1, h2⟩
    have S3 : SR G H2 F2 (ad2 ++ [L]) (st2 ++ [.lst ys]) := by
      refine ⟨S2.sub, by rw [List.length_append, List.length_append, S2.len]; rfl, ?_, fun a ha => ?_, fun n a m ha hm => ?_⟩
      · rw [List.nodup_append]
        refine ⟨S2.nd, by simp, fun a ha b hb => ?_⟩
        have : b = L := by simpa using hb
        rw [this]
        exact fun e => na (by rw [← e]; exact ha)
      · rcases List.mem_append.mp ha with ha | ha
        · exact S2.dis a ha
        · have : a = L := by simpa using ha
          rw [this]; exact nf
      · by_cases hn : n < ad2.length
        · rw [List.getElem?_append_left hn] at ha
          rw [List.getElem?_append_left (by rw [← S2.len]; exact hn)] at hm
          have hz := S2.ob n a m ha hm
          cases m with
          | lst ds => obtain ⟨vs, z, r⟩ := hz; exact ⟨vs, z, Paired.mono (fun v x hx => up hx) r⟩
          | obj c fs => obtain ⟨hc, dx, vfs, z, r⟩ := hz; exact ⟨hc, dx, vfs, z, Paired.mono (fun v x hx => ⟨hx.1, up hx.2⟩) r⟩
          | dct kvs => obtain ⟨vs, z, r⟩ := hz; exact ⟨vs, z, Paired.mono (fun v x hx => ⟨hx.1, up hx.2⟩) r⟩
          | dcn kvs => obtain ⟨vs, z, r⟩ := hz; exact ⟨vs, z, Paired.mono (fun v x hx => ⟨hx.1, hx.2.1, up hx.2.2⟩) r⟩
        · have hl' : n < (ad2 ++ [L]).length := (List.getElem?_eq_some_iff.mp ha).1
          have e : n = ad2.length := by
            rw [List.length_append] at hl'
            simp at hl'
            omega
          subst e
          rw [List.getElem?_append_right (Nat.le_refl _), Nat.sub_self] at ha
          rw [S2.len, List.getElem?_append_right (Nat.le_refl _), Nat.sub_self] at hm
          have e1 : L = a := by simpa using ha
          have e2 : MO.lst ys = m := by simpa using hm
          rw [← e1, ← e2]
          exact ⟨ws, hl, Paired.mono (fun v x hx => up hx) rw⟩
    exact h2 _ _ _ E3 S3 _ ⟨L, by rw [← S2.len]; simp, rfl⟩
  · exact h1.elim
section
variable {elt tg iter : Expr} {ifs : List Expr} {scope : Scope} {own : List (Str × Nat)} {pos : Pos} {mi : MI} {mg : MG} {mt : MT} {me : ME}
abbrev BlkI := Shared × Hp × Addr × List (Str × Addr) × List Addr
abbrev blkX (X : Cx) (scope : Scope) (b : BlkI) : Cx := X.blk b.1 b.2.1 scope (compEnvC scope b.2.2.2.1 b.2.2.1 X.env) b.2.2.2.2
theorem de_lc (hs : G.Stb) (hc : X.calm = true) (hN : X.N.Nodup) (hi : DI G W X tg iter mi) (ok : BlkOk X.N X.env.scope scope own)
    (hg : ∀ b : BlkI, DG G (blkX X scope b) (own.map (·.2)) tg mg) (ht : ∀ b : BlkI, DTs G (fun _ _ _ _ => False) (blkX X scope b) ifs mt) (he : ∀ b : BlkI, DE G (fun _ _ _ _ => False) (blkX X scope b) elt me) (hf : ∀ x, foldedSetIterable iter X.env x = pure x := by intro _; rfl) :
    DE G W X (.ListComp elt [⟨tg, iter, ifs, 0⟩] scope pos) (mLc (own.map (·.2)) mi mg mt me) := by
  obtain ⟨wi, pi, si⟩ := hi
  obtain ⟨g, pg, sg⟩ := uniG hg
  obtain ⟨tt, pt, st⟩ := uniT ht
  obtain ⟨te, pe, se⟩ := uniE he
  exact ⟨_, pe_lc hc hN pi ok (fun s H C cl fp => pg (s, H, C, cl, fp)) (fun s H C cl fp => pt (s, H, C, cl, fp)) (fun s H C cl fp => pe (s, H, C, cl, fp)) hf, sim_lc hs si sg st se⟩
theorem de_lcC (hs : G.Stb) (hc : X.calm = true) (hN : X.N.Nodup) (hi : DI G W X tg iter mi) (ok : BlkOk X.N X.env.scope scope own)
    (hg : ∀ b : BlkI, DG G (blkX X scope b) (own.map (·.2)) tg mg) (ht : ∀ b : BlkI, DTs G (fun _ _ _ _ => False) (blkX X scope b) ifs mt) (he : ∀ b : BlkI, DE G (fun _ _ _ _ => False) (blkX X scope b) elt me) (hf : ∀ x, foldedSetIterable iter X.env x = pure x := by intro _; rfl) :
    DE G W X (.ListComp elt [⟨tg, iter, ifs, 0⟩] scope pos) (mLcC (own.map (·.2)) mi mg mt me) := by
  obtain ⟨wi, pi, si⟩ := hi
  obtain ⟨g, pg, sg⟩ := uniG hg
  obtain ⟨tt, pt, st⟩ := uniT ht
  obtain ⟨te, pe, se⟩ := uniE he
  exact ⟨_, pe_lc hc hN pi ok (fun s H C cl fp => pg (s, H, C, cl, fp)) (fun s H C cl fp => pt (s, H, C, cl, fp)) (fun s H C cl fp => pe (s, H, C, cl, fp)) hf, sim_lcC hs si sg st se⟩
/-- y = [..] -/
theorem ds_setLc {i : Nat} {y : Str} {py spos : Pos} (hs : G.Stb) (hc : X.calm = true) (hN : X.N.Nodup) (hy : X.N[i]? = some y) (hyl : X.env.scope.names.lookup y = some .local) (hsw : swapsWith (.ListComp elt [⟨tg, iter, ifs, 0⟩] scope pos) (some (.Name y py)) spos.line X.env = pure true)
    (hi : DI G W X tg iter mi) (ok : BlkOk X.N X.env.scope scope own)
    (hg : ∀ b : BlkI, DG G (blkX X scope b) (own.map (·.2)) tg mg) (ht : ∀ b : BlkI, DTs G (fun _ _ _ _ => False) (blkX X scope b) ifs mt) (he : ∀ b : BlkI, DE G (fun _ _ _ _ => False) (blkX X scope b) elt me) (hf : ∀ x, foldedSetIterable iter X.env x = pure x := by intro _; rfl) :
    DS G W X (.Assign [.Name y py] (.ListComp elt [⟨tg, iter, ifs, 0⟩] scope pos) spos) (mAsg (mLc (own.map (·.2)) mi mg mt me) (gN i)) := by
  obtain ⟨wi, pi, si⟩ := hi
  obtain ⟨g, pg, sg⟩ := uniG hg
  obtain ⟨tt, pt, st⟩ := uniT ht
  obtain ⟨te, pe, se⟩ := uniE he
  exact ⟨_, ps_setLc hc hN hy hyl hsw pi ok (fun s H C cl fp => pg (s, H, C, cl, fp)) (fun s H C cl fp => pt (s, H, C, cl, fp)) (fun s H C cl fp => pe (s, H, C, cl, fp)) hf, sim_asg (sim_lc hs si sg st se) (simG_name (vs := [i]) hs (List.mem_singleton.mpr rfl))⟩
theorem ds_setLcC {i : Nat} {y : Str} {py spos : Pos} (hs : G.Stb) (hc : X.calm = true) (hN : X.N.Nodup) (hy : X.N[i]? = some y) (hyl : X.env.scope.names.lookup y = some .local) (hsw : swapsWith (.ListComp elt [⟨tg, iter, ifs, 0⟩] scope pos) (some (.Name y py)) spos.line X.env = pure true)
    (hi : DI G W X tg iter mi) (ok : BlkOk X.N X.env.scope scope own)
    (hg : ∀ b : BlkI, DG G (blkX X scope b) (own.map (·.2)) tg mg) (ht : ∀ b : BlkI, DTs G (fun _ _ _ _ => False) (blkX X scope b) ifs mt) (he : ∀ b : BlkI, DE G (fun _ _ _ _ => False) (blkX X scope b) elt me) (hf : ∀ x, foldedSetIterable iter X.env x = pure x := by intro _; rfl) :
    DS G W X (.Assign [.Name y py] (.ListComp elt [⟨tg, iter, ifs, 0⟩] scope pos) spos) (mAsg (mLcC (own.map (·.2)) mi mg mt me) (gN i)) := by
  obtain ⟨wi, pi, si⟩ := hi
  obtain ⟨g, pg, sg⟩ := uniG hg
  obtain ⟨tt, pt, st⟩ := uniT ht
  obtain ⟨te, pe, se⟩ := uniE he
  exact ⟨_, ps_setLc hc hN hy hyl hsw pi ok (fun s H C cl fp => pg (s, H, C, cl, fp)) (fun s H C cl fp => pt (s, H, C, cl, fp)) (fun s H C cl fp => pe (s, H, C, cl, fp)) hf, sim_asg (sim_lcC hs si sg st se) (simG_name (vs := [i]) hs (List.mem_singleton.mpr rfl))⟩
end
end

/-! ### errors -/
/-- what __init__ promises: one field | two fields -/
def spExc (fld : Str) (C : Addr) : Sp := fun vs H Q _ => ∃ (a : Addr) (v : V), vs = [.ref a, v] ∧ H a = some (exo a C none) ∧ ∀ dx, H dx = none → dx ≠ a → Q .non (upd (upd H dx (exd dx [(fld, v)])) a (exo a C (some dx)))
def spExc2 (fld fld2 : Str) (C : Addr) : Sp := fun vs H Q _ => ∃ (a : Addr) (v v2 : V), vs = [.ref a, v, v2] ∧ H a = some (exo a C none) ∧ ∀ dx, H dx = none → dx ≠ a → Q .non (upd (upd (upd H dx (exd dx [(fld, v)])) a (exo a C (some dx))) dx (exd dx [(fld2, v2), (fld, v)]))
theorem mk_exc {C : Addr} {fld : Str} {v : V} {H1 : Hp} {Q : XK} (q : ∀ d H', H1 d = none → Same H1 H' → H' d = some (.xd [(fld, v)]) → Q (.ref C) (some d) H') :
    [v].length ≤ 1000 ∧ ∀ a, H1 a = none → spExc fld C (.ref a :: ([v] ++ [])) (upd H1 a (exo a C none)) (fun v H2 => v = .non ∧ ∃ (d : Addr) (fs : List (Str × V)), H2 a = some (exo a C (some d)) ∧ H2 d = some (exd d fs) ∧ H1 d = none ∧ Q (.ref C) (some d) (upd (del H2 a) d (.xd fs))) (fun _ _ _ => False) := by
  refine ⟨(by show 1 ≤ 1000; decide), fun a ha => ⟨a, v, rfl, upd_same, fun dx hd ne => ?_⟩⟩
  have hd1 : H1 dx = none := by
    rw [upd_ne ne] at hd
    exact hd
  refine ⟨rfl, dx, [(fld, v)], upd_same, by rw [upd_ne ne, upd_same], hd1, q dx _ hd1 (fun b o hb => ?_) upd_same⟩
  have nb : b ≠ dx := ne_of_none hb hd1
  have na : b ≠ a := ne_of_none hb ha
  rw [upd_ne nb, del_ne na, upd_ne na, upd_ne nb, upd_ne na]
  exact hb
theorem mk_exc2 {C : Addr} {fld fld2 : Str} {v v2 : V} {H1 : Hp} {Q : XK} (q : ∀ d H', H1 d = none → Same H1 H' → H' d = some (.xd [(fld2, v2), (fld, v)]) → Q (.ref C) (some d) H') :
    [v, v2].length ≤ 1000 ∧ ∀ a, H1 a = none → spExc2 fld fld2 C (.ref a :: ([v, v2] ++ [])) (upd H1 a (exo a C none)) (fun v H2 => v = .non ∧ ∃ (d : Addr) (fs : List (Str × V)), H2 a = some (exo a C (some d)) ∧ H2 d = some (exd d fs) ∧ H1 d = none ∧ Q (.ref C) (some d) (upd (del H2 a) d (.xd fs))) (fun _ _ _ => False) := by
  refine ⟨(by show 2 ≤ 1000; decide), fun a ha => ⟨a, v, v2, rfl, upd_same, fun dx hd ne => ?_⟩⟩
  have hd1 : H1 dx = none := by
    rw [upd_ne ne] at hd
    exact hd
  refine ⟨rfl, dx, [(fld2, v2), (fld, v)], by rw [upd_ne ne.symm, upd_same], upd_same, hd1, q dx _ hd1 (fun b o hb => ?_) upd_same⟩
  have nb : b ≠ dx := ne_of_none hb hd1
  have na : b ≠ a := ne_of_none hb ha
  rw [upd_ne nb, del_ne na, upd_ne nb, upd_ne na, upd_ne nb, upd_ne na]
  exact hb
section
variable {G : Ga} {W : L2.WX} {X : Cx}
/-- more is known, a new frozen thing among it -/
theorem SR.grow {H F H' : Hp} {ad : List Addr} {st : Sto} {p : Addr} {o : HO} (S : SR G H F ad st) (s : Same H H') (hp : H p = none) (hp' : H' p = some o) : SR G H' (upd F p o) ad st ∧ Ext H F ad H' (upd F p o) ad := by
  have fp : F p = none := S.sub.free hp
  have sf : Same F (upd F p o) := fun b u h => by rw [upd_ne (ne_of_none h fp)]; exact h
  have ne : ∀ a ∈ ad, a ≠ p := fun a h e => by
    obtain ⟨u, hu⟩ := S.there h
    rw [e, hp] at hu
    cases hu
  have E : Ext H F ad H' (upd F p o) ad := ⟨⟨[], (List.append_nil _).symm⟩, sf, fun b u _ h => s b u h, fun b h => s.free h, fun b u h => by
    by_cases e : b = p
    · rw [e]; exact .inr hp
    · rw [upd_ne e] at h; exact .inl h, fun b h => .inl h⟩
  refine ⟨⟨fun b u h => ?_, S.len, S.nd, fun a h => by rw [upd_ne (ne a h)]; exact S.dis a h, fun n a m h hm => ?_⟩, E⟩
  · by_cases e : b = p
    · rw [e, upd_same] at h
      rw [e, hp']; exact h
    · rw [upd_ne e] at h; exact s b u (S.sub b u h)
  · have hz := S.ob n a m h hm
    obtain ⟨u, hu⟩ := hz.there
    exact hz.mono E (by rw [hu]; exact s a u hu)
def mRaise (c : String) (fls : List String) (a : MA) : MS := fun ρ st => match a ρ st with
  | .ok vs st => if vs.length = fls.length then .er c (fls.zip vs).reverse ρ st else .bad
  | .er c fs st => .er c fs ρ st
  | .bad => .bad
theorem ds_raise1 {s : Stmt} {es : List Expr} {m : MA} {c fld : String} (hc : c ∈ G.xs) (hp : ∀ {t : TA}, PA X es t → PS X s (fun _ σ H => tMkO (G.ca c) (spExc (Str.ofString fld) (G.ca c)) [] t σ H fun cls d H' => W cls d σ H')) (h : DA G W X es m) : DS G W X s (mRaise c [fld] m) := by
  obtain ⟨t, p, sm⟩ := h
  refine ⟨_, hp p, ?_⟩
  intro σ ρ H F ad st D R S h
  refine sm σ ρ H F ad st _ R S ?_
  unfold mRaise at h
  revert h
  generalize m ρ st = ra
  intro h
  cases ra with
  | bad => exact h
  | er c fs st1 => exact fun H' F' ad' cls d e S' z => h H' F' ad' σ cls d e S' (R.ext e) z
  | ok xs st1 =>
    intro H1 F1 ad1 e1 S1 ws rw
    match xs, rw, h with
    | [], _, h => exact h.elim
    | _ :: _ :: _, _, h =>
      have h : PoS G W H F ad D (if _ = 1 then _ else .bad) := h
      rw [if_neg (by simp)] at h
      exact h.elim
    | [x], .cons (a := v) r .nil, h =>
      refine mk_exc (C := G.ca c) (fld := Str.ofString fld) (v := v) (H1 := H1) (Q := fun cls d H' => W cls d σ H') fun d H' hd s' hx => ?_
      obtain ⟨S2, E2⟩ := S1.grow s' hd hx
      exact h H' _ ad1 σ _ _ (e1.trans E2) S2 ((R.ext e1).ext E2) ⟨hc, rfl, .inr ⟨d, _, rfl, upd_same, .cons ⟨rfl, r.ext E2⟩ .nil⟩⟩
theorem ds_raise2 {s : Stmt} {es : List Expr} {m : MA} {c fld fld2 : String} (hc : c ∈ G.xs) (hp : ∀ {t : TA}, PA X es t → PS X s (fun _ σ H => tMkO (G.ca c) (spExc2 (Str.ofString fld) (Str.ofString fld2) (G.ca c)) [] t σ H fun cls d H' => W cls d σ H')) (h : DA G W X es m) : DS G W X s (mRaise c [fld, fld2] m) := by
  obtain ⟨t, p, sm⟩ := h
  refine ⟨_, hp p, ?_⟩
  intro σ ρ H F ad st D R S h
  refine sm σ ρ H F ad st _ R S ?_
  unfold mRaise at h
  revert h
  generalize m ρ st = ra
  intro h
  cases ra with
  | bad => exact h
  | er c fs st1 => exact fun H' F' ad' cls d e S' z => h H' F' ad' σ cls d e S' (R.ext e) z
  | ok xs st1 =>
    intro H1 F1 ad1 e1 S1 ws rw
    match xs, rw, h with
    | [], _, h => exact h.elim
    | [_], _, h => exact h.elim
    | _ :: _ :: _ :: _, _, h =>
      have h : PoS G W H F ad D (if _ = 2 then _ else .bad) := h
      rw [if_neg (by simp)] at h
      exact h.elim
    | [x, y], .cons (a := v) r (.cons (a := w) r2 .nil), h =>
      refine mk_exc2 (C := G.ca c) (fld := Str.ofString fld) (fld2 := Str.ofString fld2) (v := v) (v2 := w) (H1 := H1) (Q := fun cls d H' => W cls d σ H') fun d H' hd s' hx => ?_
      obtain ⟨S2, E2⟩ := S1.grow s' hd hx
      exact h H' _ ad1 σ _ _ (e1.trans E2) S2 ((R.ext e1).ext E2) ⟨hc, rfl, .inr ⟨d, _, rfl, upd_same, .cons ⟨rfl, r2.ext E2⟩ (.cons ⟨rfl, r.ext E2⟩ .nil)⟩⟩
/-! an except suite: the error is known -/
def Ga.sx (G : Ga) (a : Addr) (i : Nat) (c : String) (fs : List (String × Va)) (cls : Value) (d : Option Addr) : Ga := { G with
  jv := fun F ad σ => σ[i]? = some (some (.ref a)) ∧ ErrR G F ad c fs cls d
  jm := fun {H F H' F' ad ad' σ} e h => by
    obtain ⟨h0, h1, h2, h3⟩ := h
    refine ⟨h0, h1, h2, ?_⟩
    rcases h3 with h3 | ⟨dx, vfs, e1, e2, e3⟩
    · exact .inl h3
    · exact .inr ⟨dx, vfs, e1, e.fz _ _ e2, RepFs.ext e e3⟩ }
section
variable {G' : Ga} (hK : G'.K = G.K) (hca : G'.ca = G.ca) (hcs : G'.cs = G.cs) (hw : G'.w = G.w)
include hK hca hcs hw hw
mutual
theorem Rep.swap {F : Hp} : ∀ {v : V} {d : D}, Rep G F v d → Rep G' F v d
  | _, _, .non => .non
  | _, _, .bl b => .bl b
  | _, _, .int i => .int i
  | _, _, .str x => .str x
  | _, _, .lst h t => .lst h (Reps.swap t)
  | _, _, .tup h t => .tup (by rw [hK]; exact h) (Reps.swap t)
  | _, _, .obj hc h t => .obj (by rw [hcs]; exact hc) (by rw [hca]; exact h) (Repf.swap t)
  | _, _, .cls c hc => by
    have := Rep.cls (G := G') (F := F) c (by rw [hcs]; exact hc)
    rw [hca] at this
    exact this
  | _, _, .ty n => .ty n
  | _, _, .lck h => .lck (by rw [hK]; exact h)
  | _, _, .idn h => .idn (Rep.swap h)
  | _, _, .dct h t => .dct h (Repk.swap t)
  | _, _, .dcn h t => .dcn (by rw [hw]; exact h) (Repn.swap t)
  | _, _, .exc h hd t => .exc (by rw [hca]; exact h) hd (Repf.swap t)
  | _, _, .exc0 h => .exc0 (by rw [hca]; exact h)
theorem Reps.swap {F : Hp} : ∀ {v : List V} {d : List D}, Reps G F v d → Reps G' F v d
  | _, _, .nil => .nil
  | _, _, .cons h t => .cons (Rep.swap h) (Reps.swap t)
theorem Repf.swap {F : Hp} : ∀ {v : List (Str × V)} {d : List (String × D)}, Repf G F v d → Repf G' F v d
  | _, _, .nil => .nil
  | _, _, .cons h t => .cons (Rep.swap h) (Repf.swap t)
theorem Repk.swap {F : Hp} : ∀ {v : List (Key × V)} {d : List (D × D)}, Repk G F v d → Repk G' F v d
  | _, _, .nil => .nil
  | _, _, .cons h t => .cons (Rep.swap h) (Repk.swap t)
theorem Repn.swap {F : Hp} : ∀ {v : List (NestedKey × Addr × V)} {d : List (D × D)}, Repn G F v d → Repn G' F v d
  | _, _, .nil => .nil
  | _, _, .cons hx hk h t => .cons (Rep.swap hx) hk (Rep.swap h) (Repn.swap t)
end
theorem RepV.swap {F : Hp} {ad : List Addr} {v : V} {x : Va} (h : RepV G F ad v x) : RepV G' F ad v x := by
  cases x with
  | d x => exact Rep.swap hK hca hcs hw h
  | ref n => exact h
theorem RepVs.swap {F : Hp} {ad : List Addr} {v : List V} {x : List Va} (h : RepVs G F ad v x) : RepVs G' F ad v x := Paired.mono (fun _ _ z => RepV.swap hK hca hcs hw z) h
theorem RepFs.swap {F : Hp} {ad : List Addr} {v : List (Str × V)} {x : List (String × Va)} (h : RepFs G F ad v x) : RepFs G' F ad v x := Paired.mono (fun _ _ z => ⟨z.1, RepV.swap hK hca hcs hw z.2⟩) h
theorem SR.swap {H F : Hp} {ad : List Addr} {st : Sto} (S : SR G H F ad st) : SR G' H F ad st := by
  refine ⟨S.sub, S.len, S.nd, S.dis, fun n a o h ho => ?_⟩
  have hz := S.ob n a o h ho
  cases o with
  | lst ds => obtain ⟨vs, z, r⟩ := hz; exact ⟨vs, z, RepVs.swap hK hca hcs hw r⟩
  | obj c fs => obtain ⟨hc, dx, vfs, z, r⟩ := hz; exact ⟨by rw [hcs]; exact hc, dx, vfs, by rw [hca]; exact z, RepFs.swap hK hca hcs hw r⟩
  | dct kvs => obtain ⟨vs, z, r⟩ := hz; exact ⟨vs, z, Paired.mono (fun _ _ z => ⟨z.1, RepV.swap hK hca hcs hw z.2⟩) r⟩
  | dcn kvs => obtain ⟨vs, z, r⟩ := hz; exact ⟨vs, by rw [hw]; exact z, Paired.mono (fun _ _ z => ⟨Rep.swap hK hca hcs hw z.1, z.2.1, RepV.swap hK hca hcs hw z.2.2⟩) r⟩
end
/-- e.f in the suite -/
def mXf (fs : List (String × Va)) (f : String) : ME := fun _ st => match fs.lookup f with
  | some v => .ok v st
  | none => .bad
theorem de_xf {a : Addr} {oe : Obj} {cls : Value} {d : Option Addr} {pn : List (Addr × Obj)} {e : Expr} {pos : Pos} {i : Nat} {c f : String} {fs : List (String × Va)} (hp : PE (X.suite a ((a, oe) :: pn)) (.Attribute e (Str.ofString f) pos) (tXf a cls d (G.ca c) (Str.ofString f) (tVar i))) : DE (G.sx a i c fs cls d) W (X.suite a ((a, oe) :: pn)) (.Attribute e (Str.ofString f) pos) (mXf fs f) := by
  refine ⟨_, hp, ?_⟩
  intro σ ρ H F ad st Q R S h
  obtain ⟨h0, h1, h2, h3⟩ := R.j
  unfold mXf at h
  cases z : fs.lookup f with
  | none => rw [z] at h; exact h.elim
  | some x =>
    rw [z] at h
    refine ⟨.ref a, h0, rfl, h2, ?_⟩
    rcases h3 with ⟨rfl, _⟩ | ⟨dx, vfs, e1, e2, e3⟩
    · cases z
    · obtain ⟨w, q1, q2⟩ := lookup_f e3 z
      exact ⟨dx, vfs, w, e1, S.sub _ _ e2, q1, fin_same S h _ (RepV.swap (G := G) (G' := G.sx a i c fs cls d) rfl rfl rfl rfl q2)⟩
/-- try: body except C as n: suite -/
def mTry (i : Nat) (c0 : String) (b : MS) (h : List (String × Va) → MS) : MS := fun ρ st => match b ρ st with
  | .er c fs ρ st => if c = c0 then (if i < ρ.length then (match h fs (ρ.set i none) st with
    | .nx ρ st => .nx (ρ.set i none) st
    | .rt v st => .rt v st
    | .bk ρ st => .bk (ρ.set i none) st
    | .ct ρ st => .ct (ρ.set i none) st
    | _ => .bad) else .bad) else .er c fs ρ st
  | o => o
theorem RelE.out {F : Hp} {ad : List Addr} {σ : L2.St} {ρ : Ev} {i : Nat} {a : Addr} {c : String} {fs : List (String × Va)} {cls : Value} {d : Option Addr} (hj : ∀ F ad σ, G.jv F ad σ) (R : RelE (G.sx a i c fs cls d) F ad σ ρ) : RelE G F ad (σ.set i none) (ρ.set i none) := by
  refine ⟨by rw [List.length_set, List.length_set]; exact R.len, fun j u e => ?_, hj _ _ _⟩
  by_cases q : i = j
  · subst q
    have hl : i < ρ.length := by
      have := (List.getElem?_eq_some_iff.mp e).1
      rw [List.length_set] at this
      exact this
    rw [List.getElem?_set_self hl] at e
    cases e
  · rw [List.getElem?_set_ne q] at e
    obtain ⟨v, h1, h2⟩ := R.at_ j u e
    exact ⟨v, by rw [List.getElem?_set_ne q]; exact h1, RepV.swap (G := G.sx a i c fs cls d) (G' := G) rfl rfl rfl rfl h2⟩
theorem ds_try_as {x n : Str} {i : Nat} {c0 : String} {body suite : List Stmt} {b₀ : Stmt} {np pos pos' : Pos} {mb : MS} {mh : List (String × Va) → MS} (hj : ∀ F ad σ, G.jv F ad σ) (hK : X.K = G.K) (h0 : c0 ∈ G.xs) (hs : X.stack = X.env :: X.outer) (hf : X.env.frame = some X.env.locals) (hN : X.N.Nodup) (hi : X.N[i]? = some n) (hln : X.env.kindOf n = some .local) (hc : Names X x (.ref (G.ca c0))) (tk : Takes X W)
    (hb : ∀ (W' : WX) (pn : List (Addr × Obj)) (xe : Value → Shared → Prop), Takes (X.tr pn xe) W' → PassesOwn (model X.prog X.w) X.A X.env xe → DSs G W' (X.tr pn xe) body mb)
    (hsu : ∀ (fs : List (String × Va)) (a : Addr) (oe : Obj) (d : Option Addr) (pn : List (Addr × Obj)), Zc (.ref (G.ca c0)) d oe → (∃ vs, oe.data = .fields vs) → DSs (G.sx a i c0 fs (.ref (G.ca c0)) d) (fun _ _ _ _ => False) (X.suite a ((a, oe) :: pn)) (b₀ :: suite) (mh fs)) :
    DS G W X (.Try body [.ExceptHandler (some (.Name x np)) (some n) (b₀ :: suite) pos'] [] [] pos) (mTry i c0 mb mh) := by
  have ub : ∀ W' : WX, ∃ t, (∀ (pn : List (Addr × Obj)) (xe : Value → Shared → Prop), Takes (X.tr pn xe) W' → PassesOwn (model X.prog X.w) X.A X.env xe → PSs (X.tr pn xe) body t) ∧ SimS G W' t mb := fun W' => by
    obtain ⟨t, h1, h2⟩ := uniSs (G := G) (W := W') (ι := { p : List (Addr × Obj) × (Value → Shared → Prop) // Takes (X.tr p.1 p.2) W' ∧ PassesOwn (model X.prog X.w) X.A X.env p.2 }) (Y := fun p => X.tr p.1.1 p.1.2) (e := body) (m := mb) fun p => hb W' p.1.1 p.1.2 p.2.1 p.2.2
    exact ⟨t, fun pn xe a b => h1 ⟨(pn, xe), a, b⟩, h2⟩
  let tb : WX → TS := fun W' => (ub W').choose
  have tbp : ∀ W' (pn : List (Addr × Obj)) (xe : Value → Shared → Prop), Takes (X.tr pn xe) W' → PassesOwn (model X.prog X.w) X.A X.env xe → PSs (X.tr pn xe) body (tb W') := fun W' => (ub W').choose_spec.1
  have tbs : ∀ W', SimS G W' (tb W') mb := fun W' => (ub W').choose_spec.2
  let ts : Addr → Value → Option Addr → TS := fun a cls d D σ H => ∀ (oe : Obj) (pn : List (Addr × Obj)), Zc cls d oe → (∃ vs, oe.data = .fields vs) → ∃ t, PSs (X.suite a ((a, oe) :: pn)) (b₀ :: suite) t ∧ t D σ H
  refine ⟨_, ps_try_as (tb := tb) (ts := ts) hs hf hN hi hln hc tk tbp (fun a oe cls d pn hz hv => ⟨fun pins s σ H D I h => ?_⟩), ?_⟩
  · obtain ⟨t, p, z⟩ := h oe pn hz hv
    exact p.run pins s σ H D I z
  · intro σ ρ H F ad st D R S h
    refine tbs _ σ ρ H F ad st D R S ?_
    unfold mTry at h
    revert h
    generalize mb ρ st = o
    intro h
    cases o with
    | nx ρ1 st1 => exact h
    | rt v st1 => exact h
    | bk ρ1 st1 => exact h
    | ct ρ1 st1 => exact h
    | bad => exact h
    | er c fs ρ1 st1 =>
      intro H1 F1 ad1 σ1 cls d e1 S1 R1 er
      obtain ⟨hx, rfl, er3⟩ := er
      refine ⟨decide (c = c0), by rw [hK]; exact G.xm c hx c0 h0, fun hd a ha oe pn hz hv => ?_, fun hd => ?_⟩
      · have e : c = c0 := of_decide_eq_true hd
        subst e
        obtain ⟨t, p, z⟩ := hsu fs a oe d pn hz hv
        refine ⟨t, p, ?_⟩
        have hil : i < σ1.length ∨ ¬ i < σ1.length := Classical.em _
        have h : PoS G W H F ad D (if c = c then (if i < ρ1.length then (match mh fs (ρ1.set i none) st1 with
          | .nx ρ st => .nx (ρ.set i none) st
          | .rt v st => .rt v st
          | .bk ρ st => .bk (ρ.set i none) st
          | .ct ρ st => .ct (ρ.set i none) st
          | _ => .bad) else .bad) else .er c fs ρ1 st1) := h
        rw [if_pos rfl] at h
        have h := PoS.from e1 h
        rcases hil with hil | hil
        · rw [if_pos (by rw [← R1.len]; exact hil)] at h
          have R2 : RelE (G.sx a i c fs (.ref (G.ca c)) d) F1 ad1 (σ1.set i (some (.ref a))) (ρ1.set i none) := by
            refine ⟨by rw [List.length_set, List.length_set]; exact R1.len, fun j u e => ?_, List.getElem?_set_self hil, hx, rfl, er3⟩
            by_cases q : i = j
            · subst q
              rw [List.getElem?_set_self (by rw [← R1.len]; exact hil)] at e
              cases e
            · rw [List.getElem?_set_ne q] at e
              obtain ⟨v, h1, h2⟩ := R1.at_ j u e
              exact ⟨v, by rw [List.getElem?_set_ne q]; exact h1, RepV.swap (G := G) (G' := G.sx a i c fs (.ref (G.ca c)) d) rfl rfl rfl rfl h2⟩
          refine z _ _ H1 F1 ad1 st1 _ R2 (SR.swap (G := G) (G' := G.sx a i c fs (.ref (G.ca c)) d) rfl rfl rfl rfl S1) ?_
          revert h
          generalize mh fs (ρ1.set i none) st1 = o
          intro h
          cases o with
          | nx ρ3 st3 => exact fun H4 F4 ad4 σ4 e4 S4 R4 => h H4 F4 ad4 _ e4 (SR.swap (G := G.sx a i c fs (.ref (G.ca c)) d) (G' := G) rfl rfl rfl rfl S4) (R4.out hj)
          | bk ρ3 st3 => exact fun H4 F4 ad4 σ4 e4 S4 R4 => h H4 F4 ad4 _ e4 (SR.swap (G := G.sx a i c fs (.ref (G.ca c)) d) (G' := G) rfl rfl rfl rfl S4) (R4.out hj)
          | ct ρ3 st3 => exact fun H4 F4 ad4 σ4 e4 S4 R4 => h H4 F4 ad4 _ e4 (SR.swap (G := G.sx a i c fs (.ref (G.ca c)) d) (G' := G) rfl rfl rfl rfl S4) (R4.out hj)
          | rt v3 st3 => exact fun H4 F4 ad4 w e4 S4 r4 => h H4 F4 ad4 w e4 (SR.swap (G := G.sx a i c fs (.ref (G.ca c)) d) (G' := G) rfl rfl rfl rfl S4) (RepV.swap (G := G.sx a i c fs (.ref (G.ca c)) d) (G' := G) rfl rfl rfl rfl r4)
          | er c3 fs3 ρ3 st3 => exact h.elim
          | bad => exact h.elim
        · rw [if_neg (by rw [← R1.len]; exact hil)] at h
          exact h.elim
      · have e : ¬ c = c0 := of_decide_eq_false hd
        have h : PoS G W H F ad D (if c = c0 then (if i < ρ1.length then (match mh fs (ρ1.set i none) st1 with
          | .nx ρ st => .nx (ρ.set i none) st
          | .rt v st => .rt v st
          | .bk ρ st => .bk (ρ.set i none) st
          | .ct ρ st => .ct (ρ.set i none) st
          | _ => .bad) else .bad) else .er c fs ρ1 st1) := h
        rw [if_neg e] at h
        exact h H1 F1 ad1 σ1 _ d e1 S1 R1 ⟨hx, rfl, er3⟩
end

/-! ### defs by their mirrors, taken as one -/
section
variable {G : Ga} {W : L2.WX} {X : Cx}
def OkB (P : Program) (w : World) (K : PySem.W.Frag) (mg : Str → Option Value) (base : Heap) (k : Nat) (f : Addr) (ps : List Str) (dvs : List V) (sp : Sp) : Prop :=
  ∃ fd ds, FnOk P w K mg base (L2.CX P w) k f fd ps sp ∧ Vals dvs ds ∧ Binds K fd ps ds ∧ PySem.W.keepIn K (.ref f) = true
theorem okb_mk {P : Program} {w : World} {K : PySem.W.Frag} {mg : Str → Option Value} {base : Heap} {x qual : Str} {params : Arguments} {body : List Stmt} {scope : Scope} {f : Addr} {ps : List Str} {k : Nat} {sp : Sp} (F : ∃ fd, FunD K x qual params body scope [] [] f fd)
    (b : ∀ (kV doc pm : Value) (an : Option Addr) (cdv ct : Value) (us : List Value), us.length = ps.length → bindArgs (PySem.W.fnOf x qual params body scope .none kV doc pm an cdv ct) ⟨us, []⟩ = pure (ps.zip us))
    (h : ∀ fd, FunD K x qual params body scope [] [] f fd → FnOk P w K mg base (L2.CX P w) k f fd ps sp) : OkB P w K mg base k f ps [] sp := by
  obtain ⟨fd, F⟩ := F
  exact ⟨fd, [], h fd F, .nil, F.bindsN b, F.kp⟩
/-- with defaults: all given | the last ones left out -/
theorem okb_mkD {P : Program} {w : World} {K : PySem.W.Frag} {mg : Str → Option Value} {base : Heap} {x qual : Str} {params : Arguments} {body : List Stmt} {scope : Scope} {f : Addr} {ps : List Str} {k : Nat} {sp : Sp} {dvs : List V} (F : ∃ fd, FunD K x qual params body scope dvs [] f fd) (n j : Nat) (hd : dvs ≠ []) (hn : n + (dvs.length - j) = ps.length)
    (b : ∀ (T : Addr) (kV doc pm : Value) (an : Option Addr) (cdv ct : Value) (us its : List Value), us.length = n → its.length = dvs.length →
      ∃ k, bindArgs (PySem.W.fnOf x qual params body scope (.ref T) kV doc pm an cdv ct) ⟨us, []⟩ = seqItems? (.ref T) >>= k ∧ k (some its.toArray) = pure (ps.zip (us ++ its.drop j)))
    (h : ∀ fd, FunD K x qual params body scope dvs [] f fd → FnOk P w K mg base (L2.CX P w) k f fd ps sp) : OkB P w K mg base k f ps (dvs.drop j) sp := by
  obtain ⟨fd, F⟩ := F
  obtain ⟨ds, v, bd⟩ := F.binds1 n j hd hn b
  exact ⟨fd, ds, h fd F, v, bd, F.kp⟩
section
variable {k : Nat} {fa : Addr} {ps : List Str} {f : MF} {dvs : List V} {es : List D} {x : Str} {e o : Expr} {ee : List Expr} {p pos apos : Pos} {m : MA} {mo : ME} {c mth : String}
theorem ck_call (F : OkB X.prog X.w X.K X.mg X.base k fa ps dvs (spM G f)) (hd : DflR G dvs es) (hr : Room k X.A) (hg : Gl X x) (hm : X.mg x = some (.ref fa)) (tk : Takes X W)
    (ha : DA G W X (e :: ee) m) (hdb : (x == ("__debug__" : Str)) = false := by decide) (he : starEach (e :: ee) X.env = (false, eval e X.env) :: starEach ee X.env := by rfl) (hpl : (backTo pos (starEach ee X.env)).any (·.1) = false := by rfl) : DE G W X (.Call (.Name x p) (e :: ee) [] pos) (mCall (withD es f) m) := by
  obtain ⟨t, pt, st⟩ := ha
  obtain ⟨fd, ds, F, hv, hb, hk⟩ := F
  exact ⟨_, pe_callSD F hr hg hm hk hb hv (passAt tk) pt hdb he hpl, sim_call hd (.inl fun ds st => rfl) st⟩
theorem ck_pcall (F : OkB X.prog X.w X.K X.mg X.base k fa ps dvs (spM G f)) (hd : DflR G dvs es) (hr : Room k X.A) (hg : Gl X x) (hm : X.mg x = some (.ref fa)) (tk : Takes X W)
    (ha : DA G W X (e :: ee) m) (hdb : (x == ("__debug__" : Str)) = false := by decide) (he : starEach (e :: ee) X.env = (false, eval e X.env) :: starEach ee X.env := by rfl) (hpl : (backTo pos (starEach ee X.env)).any (·.1) = false := by rfl) : DE G W X (.Call (.Name x p) (e :: ee) [] pos) (mCall (withD es (pureF f)) m) := by
  obtain ⟨t, pt, st⟩ := ha
  obtain ⟨fd, ds, F, hv, hb, hk⟩ := F
  exact ⟨_, pe_callSD F hr hg hm hk hb hv (passAt tk) pt hdb he hpl, sim_call hd (.inr fun ds st => rfl) st⟩
theorem ck_call0 (F : OkB X.prog X.w X.K X.mg X.base k fa ps dvs (spM G f)) (hd : DflR G dvs es) (hr : Room k X.A) (hg : Gl X x) (hm : X.mg x = some (.ref fa)) (tk : Takes X W) (hdb : (x == ("__debug__" : Str)) = false := by decide) : DE G W X (.Call (.Name x p) [] [] pos) (mCall (withD es f) mNil) := by
  obtain ⟨fd, ds, F, hv, hb, hk⟩ := F
  exact ⟨_, pe_callSD0 F hr hg hm hk hb hv (passAt tk) hdb, fun σ ρ H F ad st Q R S h => ⟨F, ad, st, es.map Va.d, S, (hd F).va, h⟩⟩
theorem ck_meth {pl : Sem Bool} (g : MF) (hK : X.K = G.K) (hc : c ∈ G.cs) (he : DE G W X o mo) (hm : Meth G.K (G.ca c) (Str.ofString mth) fa) (F : OkB X.prog X.w X.K X.mg X.base k fa ps dvs (spM G f)) (hr : Room k X.A) (hd : DflR G dvs es) (tk : Takes X W)
    (hg : g = withD es f ∨ g = withD es (pureF f)) (ha : DA G W X (e :: ee) m)
    (hst : starEach (e :: ee) X.env = (false, eval e X.env) :: starEach ee X.env := by rfl) (hpl : (backTo pos (starEach ee X.env)).any (·.1) = false := by rfl)
    (ht : eval (.Call (.Attribute o (Str.ofString mth) apos) (e :: ee) [] pos) X.env = (do
      let ov ← eval o X.env
      standAt apos.atName
      let (f, first) ← holding [ov] (getMethod ov (Str.ofString mth) pl)
      callWith pos f first (backTo pos (starEach (e :: ee) X.env)) (backToKw pos (keywordEach [] X.env))) := by rfl) : DE G W X (.Call (.Attribute o (Str.ofString mth) apos) (e :: ee) [] pos) (mMeth c mth g mo m) := by
  obtain ⟨fd, ds, F, hv, hb, hk⟩ := F
  exact de_meth (pl := pl) g he (by rw [hK]; exact (G.cok c hc).cl) (by rw [hK]; exact hm) F hr hb hv hd tk (hg.elim (fun e => .inl fun ds st => by rw [e]; rfl) fun e => .inr fun ds st => by rw [e]; rfl) ha hst hpl ht
theorem ck_meth0 {pl : Sem Bool} (g : MF) (hK : X.K = G.K) (hc : c ∈ G.cs) (he : DE G W X o mo) (hm : Meth G.K (G.ca c) (Str.ofString mth) fa) (F : OkB X.prog X.w X.K X.mg X.base k fa ps dvs (spM G f)) (hr : Room k X.A) (hd : DflR G dvs es) (tk : Takes X W)
    (hg : g = withD es f ∨ g = withD es (pureF f))
    (ht : eval (.Call (.Attribute o (Str.ofString mth) apos) [] [] pos) X.env = (do
      let ov ← eval o X.env
      standAt apos.atName
      let (f, first) ← holding [ov] (getMethod ov (Str.ofString mth) pl)
      callWith pos f first (backTo pos (starEach [] X.env)) (backToKw pos (keywordEach [] X.env))) := by rfl) : DE G W X (.Call (.Attribute o (Str.ofString mth) apos) [] [] pos) (mMeth c mth g mo mNil) := by
  obtain ⟨fd, ds, F, hv, hb, hk⟩ := F
  exact de_meth0 (pl := pl) g he (by rw [hK]; exact (G.cok c hc).cl) (by rw [hK]; exact hm) F hr hb hv hd tk (hg.elim (fun e => .inl fun ds st => by rw [e]; rfl) fun e => .inr fun ds st => by rw [e]; rfl) ht
theorem ck_prop (g : MF) {pa : Addr} (hK : X.K = G.K) (hc : c ∈ G.cs) (he : DE G W X e mo) (hp : PropOf G.K (G.ca c) x pa fa) (F : OkB X.prog X.w X.K X.mg X.base k fa ps [] (spM G f)) (hr : Room (k + 1) X.A)
    (hg : g = f ∨ g = pureF f) (hab : attributeBase e x X.env (eval e X.env) = eval e X.env) : DE G W X (.Attribute e x pos) (mProp c g mo) := by
  obtain ⟨fd, ds, F, hv, hb, hk⟩ := F
  have : ds = [] := List.eq_nil_of_length_eq_zero (by rw [← hv.length]; rfl)
  subst this
  exact de_prop g he (by rw [hK]; exact (G.cok c hc).cl) (by rw [hK]; exact hp) F hr hb (hg.elim (fun e => .inl fun ds st => by rw [e]) fun e => .inr fun ds st => by rw [e]) hab
theorem ck_makeP (hK : X.K = G.K) (hc : c ∈ G.cs) (M : Mk G.K (G.ca c) fa) (F : OkB X.prog X.w X.K X.mg X.base k fa ps dvs (spM G f)) (hr : Room (k + 1) X.A) (hg : Gl X x) (hm : X.mg x = some (.ref (G.ca c))) (hd : DflR G dvs es) (tk : Takes X W)
    (ha : DA G W X (e :: ee) m) (hdb : (x == ("__debug__" : Str)) = false := by decide) (he : starEach (e :: ee) X.env = (false, eval e X.env) :: starEach ee X.env := by rfl) (hpl : (backTo pos (starEach ee X.env)).any (·.1) = false := by rfl) : DE G W X (.Call (.Name x p) (e :: ee) [] pos) (mCall (makeP c (withD es f)) m) := by
  obtain ⟨fd, ds, F, hv, hb, hk⟩ := F
  exact de_makeP hc (by rw [hK]; exact M) F hr hg hm hb hv hd tk ha hdb he hpl
theorem ck_makeC (hK : X.K = G.K) (hc : c ∈ G.cs) (M : Mk G.K (G.ca c) fa) (F : OkB X.prog X.w X.K X.mg X.base k fa ps dvs (spM G f)) (hr : Room (k + 1) X.A) (hg : Gl X x) (hm : X.mg x = some (.ref (G.ca c))) (hd : DflR G dvs es) (tk : Takes X W)
    (ha : DA G W X (e :: ee) m) (hdb : (x == ("__debug__" : Str)) = false := by decide) (he : starEach (e :: ee) X.env = (false, eval e X.env) :: starEach ee X.env := by rfl) (hpl : (backTo pos (starEach ee X.env)).any (·.1) = false := by rfl) : DE G W X (.Call (.Name x p) (e :: ee) [] pos) (mCall (makeC c (withD es f)) m) := by
  obtain ⟨fd, ds, F, hv, hb, hk⟩ := F
  exact de_makeC hc (by rw [hK]; exact M) F hr hg hm hb hv hd tk ha hdb he hpl
end
end
/-! ### the table of what is static -/
structure Tab where
  cs : List String := []
  fl : List String := []
  xs : List String := []
  xf : List (String × String) := []
  bl : List String := []
  gl : List String := []
  me : List (String × String) := []
  ms : List String := []
  pr : List (String × String) := []
abbrev gaS (K : PySem.W.Frag) (x : String) : Addr := He.ga K (Str.ofString x)
abbrev maS (K : PySem.W.Frag) (c m : String) : Addr := He.ma K (gaS K c) (Str.ofString m)
/-- the getter of a property -/
def prS (K : PySem.W.Frag) (c m : String) : Addr := match PySem.W.recIn K (maS K c m) "property" with
  | some (.ref f :: _) => f
  | _ => 0
def eqI (a : Option (Option Value)) (b : Option (Option Value)) : Bool := decide (a = b)
def eqB (a : Option Bool) (b : Bool) : Bool := decide (a = some b)
def clsB (K : PySem.W.Frag) (c : String) : Bool := (He.Fa.cls (Str.ofString c)).ok K && (eqI (PySem.W.findIn K (.ref (gaS K c)) "__class__") (some (some (.builtin "object.__class__"))) && (eqI (PySem.W.specialIn K (.builtin "object.__class__") "__get__") (some (some (.builtin "getset_descriptor.__get__"))) && (eqB (PySem.W.takesIn K (.builtin "object.__class__")) true &&
  (eqB (PySem.W.mroIn K (gaS K c) (.type "object")) true && ((["int", "bool", "str", "list", "tuple", "dict"].all fun T => eqB (PySem.W.kitOne K (.ref (gaS K c)) (.type T)) false) && (["int", "bool", "str", "list", "tuple", "dict", "NoneType"].all fun T => eqB (PySem.W.kitOne K (.type T) (.ref (gaS K c))) false))))))
theorem clsB_ok {K : PySem.W.Frag} {c : String} (h : clsB K c = true) : ClsOk K (gaS K c) := by
  obtain ⟨h1, h⟩ := He.ba h
  obtain ⟨h2, h⟩ := He.ba h
  obtain ⟨h3, h⟩ := He.ba h
  obtain ⟨h4, h⟩ := He.ba h
  obtain ⟨h5, h⟩ := He.ba h
  obtain ⟨h6, h7⟩ := He.ba h
  exact ⟨He.cls_ok h1, of_decide_eq_true h2, of_decide_eq_true h3, of_decide_eq_true h4, of_decide_eq_true h5, fun T hT => of_decide_eq_true (List.all_eq_true.mp h6 T hT), fun T hT => of_decide_eq_true (List.all_eq_true.mp h7 T hT)⟩
/-- an own error over ValueError with an own __init__ -/
def oexB (K : PySem.W.Frag) (c : String) : Bool := (match K.lookup (gaS K c) with
  | some ⟨.type "type", _, .cls cd, sl⟩ => (match cd.mro, sl.toList with
    | .ref C' :: bm, [_, _, _, _, some (.builtin n), _] => C' == gaS K c && (n == "ValueError.__new__" && (!cd.hasDel && (cd.hasDict && PySem.HandSPX.refsVE bm)))
    | _, _ => false)
  | _ => false) && (eqI (PySem.W.findIn K (.ref (gaS K c)) "__setattr__") (some (some (.builtin "object.__setattr__"))) && (eqB (PySem.W.subIn K (.ref (gaS K c)) (.type "BaseException")) true && (decide (PySem.W.typeIn K (.ref (gaS K c)) = some (.type "type")) && (PySem.W.keepIn K (.ref (gaS K c)) &&
  (xfB K (gaS K c) && (eqI (PySem.W.findIn K (.ref (gaS K c)) "__init__") (some (some (.ref (maS K c "__init__")))) && decide (PySem.W.typeIn K (.ref (maS K c "__init__")) = some (.type "function"))))))))
structure Oex (K : PySem.W.Frag) (c : String) : Prop where
  oex : OexC K (gaS K c)
  xf : XfC K (gaS K c)
  iC : PySem.W.findIn K (.ref (gaS K c)) "__init__" = some (some (.ref (maS K c "__init__")))
  tI : PySem.W.typeIn K (.ref (maS K c "__init__")) = some (.type "function")
theorem oexB_ok {K : PySem.W.Frag} {c : String} (h : oexB K c = true) : Oex K c := by
  obtain ⟨h1, h⟩ := He.ba h
  obtain ⟨h2, h⟩ := He.ba h
  obtain ⟨h3, h⟩ := He.ba h
  obtain ⟨h4, h⟩ := He.ba h
  obtain ⟨h5, h⟩ := He.ba h
  obtain ⟨h6, h⟩ := He.ba h
  obtain ⟨h7, h8⟩ := He.ba h
  refine ⟨⟨?_, of_decide_eq_true h2, of_decide_eq_true h3, of_decide_eq_true h4, h5⟩, xfB_ok h6, of_decide_eq_true h7, of_decide_eq_true h8⟩
  split at h1
  · rename_i dd cd sl ho
    split at h1
    · rename_i C' bm k0 k1 k2 k3 n k5 hm hs
      simp only [Bool.and_eq_true, beq_iff_eq, Bool.not_eq_true'] at h1
      obtain ⟨rfl, rfl, hdel, hdct, ht⟩ := h1
      obtain ⟨nm, bs, mro, ns, qn, hd, sn, sub, ab, col, del⟩ := cd
      dsimp only at hm hdel hdct
      subst hm hdel hdct
      have hsl : sl = #[k0, k1, k2, k3, some (.builtin "ValueError.__new__"), k5] := by
        obtain ⟨l⟩ := sl
        simp only at hs
        rw [hs]
      subst hsl
      exact ⟨nm, qn, ns, bs, bm, sn, sub, ab, col, dd, k0, k1, k2, k3, k5, ho, ht⟩
    · cases h1
  · cases h1
def Tab.ok (t : Tab) (K : PySem.W.Frag) : Bool := (t.cs.all (clsB K)) && ((t.cs.all fun c => t.cs.all fun e => eqB (PySem.W.kitOne K (.ref (gaS K c)) (.ref (gaS K e))) (decide (c = e))) && ((t.fl.all fun f => t.cs.all fun c => eqI (PySem.W.findIn K (.ref (gaS K c)) (Str.ofString f)) (some none)) &&
  ((t.xs.all (oexB K)) && ((t.xs.all fun c => t.xs.all fun e => eqB (PySem.W.exmOne K (.ref (gaS K c)) (.ref (gaS K e))) (decide (c = e))) && ((t.xf.all fun p => eqI (PySem.W.findIn K (.ref (gaS K p.1)) (Str.ofString p.2)) (some none)) &&
  ((t.bl.all fun x => eqI (PySem.W.nsIn K mainGlobals (Str.ofString x)) (some none)) && ((t.gl.all fun x => eqI (PySem.W.nsIn K mainGlobals (Str.ofString x)) (some (some (.ref (gaS K x))))) &&
  ((t.me.all fun p => (He.Fa.meth (Str.ofString p.1) (Str.ofString p.2)).ok K) && ((t.ms.all fun c => (He.Fa.mkr (Str.ofString c)).ok K) &&
  ((t.pr.all fun p => eqI (PySem.W.findIn K (.ref (gaS K p.1)) (Str.ofString p.2)) (some (some (.ref (maS K p.1 p.2)))) && (eqI (PySem.W.specialIn K (.ref (maS K p.1 p.2)) "__get__") (some (some (.builtin "property.__get__"))) && (eqB (PySem.W.takesIn K (.ref (maS K p.1 p.2))) true && (match PySem.W.recIn K (maS K p.1 p.2) "property" with | some (.ref _ :: _) => true | _ => false)))) &&
  (t.xs.isEmpty || (match PySem.W.findCls K (.type "ValueError") (.type "type") "__init__" with | some (.val (.builtin z)) => decide (z = "ValueError.__init__") | _ => false))))))))))))
section
variable {t : Tab} {K : PySem.W.Frag}
structure TabOk (t : Tab) (K : PySem.W.Frag) : Prop where
  cs : ∀ c ∈ t.cs, ClsOk K (gaS K c)
  kit : ∀ c ∈ t.cs, ∀ e ∈ t.cs, PySem.W.kitOne K (.ref (gaS K c)) (.ref (gaS K e)) = some (decide (c = e))
  fl : ∀ f ∈ t.fl, ∀ c ∈ t.cs, NoAttr K (gaS K c) (Str.ofString f)
  xs : ∀ c ∈ t.xs, Oex K c
  xm : ∀ c ∈ t.xs, ∀ e ∈ t.xs, PySem.W.exmOne K (.ref (gaS K c)) (.ref (gaS K e)) = some (decide (c = e))
  xf : ∀ p ∈ t.xf, PySem.W.findIn K (.ref (gaS K p.1)) (Str.ofString p.2) = some none
  bl : ∀ x ∈ t.bl, PySem.W.nsIn K mainGlobals (Str.ofString x) = some none
  gl : ∀ x ∈ t.gl, PySem.W.nsIn K mainGlobals (Str.ofString x) = some (some (.ref (gaS K x)))
  me : ∀ p ∈ t.me, Meth K (gaS K p.1) (Str.ofString p.2) (maS K p.1 p.2)
  ms : ∀ c ∈ t.ms, Mk K (gaS K c) (maS K c "__init__")
  pr : ∀ p ∈ t.pr, PropOf K (gaS K p.1) (Str.ofString p.2) (maS K p.1 p.2) (prS K p.1 p.2)
  ve : t.xs ≠ [] → PySem.W.findCls K (.type "ValueError") (.type "type") "__init__" = some (.val (.builtin "ValueError.__init__"))
theorem Tab.ok_of (h : t.ok K = true) : TabOk t K := by
  obtain ⟨h1, h⟩ := He.ba h
  obtain ⟨h2, h⟩ := He.ba h
  obtain ⟨h3, h⟩ := He.ba h
  obtain ⟨h4, h⟩ := He.ba h
  obtain ⟨h5, h⟩ := He.ba h
  obtain ⟨h6, h⟩ := He.ba h
  obtain ⟨h7, h⟩ := He.ba h
  obtain ⟨h8, h⟩ := He.ba h
  obtain ⟨h9, h⟩ := He.ba h
  obtain ⟨h10, h⟩ := He.ba h
  obtain ⟨h11, h12⟩ := He.ba h
  refine ⟨fun c hc => clsB_ok (List.all_eq_true.mp h1 c hc), fun c hc e he => of_decide_eq_true (List.all_eq_true.mp (List.all_eq_true.mp h2 c hc) e he), fun f hf c hc => show PySem.W.findIn _ _ _ = _ from of_decide_eq_true (List.all_eq_true.mp (List.all_eq_true.mp h3 f hf) c hc),
    fun c hc => oexB_ok (List.all_eq_true.mp h4 c hc), fun c hc e he => of_decide_eq_true (List.all_eq_true.mp (List.all_eq_true.mp h5 c hc) e he), fun p hp => of_decide_eq_true (List.all_eq_true.mp h6 p hp), fun x hx => of_decide_eq_true (List.all_eq_true.mp h7 x hx), fun x hx => of_decide_eq_true (List.all_eq_true.mp h8 x hx),
    fun p hp => He.meth_ok (List.all_eq_true.mp h9 p hp), fun c hc => He.mkr_ok (List.all_eq_true.mp h10 c hc), fun p hp => ?_, fun ne => ?_⟩
  · obtain ⟨a, b⟩ := He.ba (List.all_eq_true.mp h11 p hp)
    obtain ⟨b, d⟩ := He.ba b
    obtain ⟨d, e⟩ := He.ba d
    refine ⟨of_decide_eq_true a, of_decide_eq_true b, of_decide_eq_true d, ?_⟩
    unfold prS
    cases z : PySem.W.recIn K (maS K p.1 p.2) "property" with
    | none => rw [z] at e; cases e
    | some l =>
      rw [z] at e
      match l, e with
      | .ref f :: rest, _ => exact ⟨rest, rfl⟩
  · rw [Bool.or_eq_true] at h12
    rcases h12 with z | z
    · exact absurd (List.isEmpty_iff.mp z) ne
    · split at z
      · rename_i q e
        rw [e, of_decide_eq_true z]
      · cases z
/-- what is static, of a table -/
def TabOk.G (T : TabOk t K) (w : World) : Ga where
  K := K
  ca := gaS K
  cs := t.cs
  cok := T.cs
  kit := T.kit
  jv := fun _ _ _ => True
  jm := fun _ _ => trivial
  xs := t.xs
  xm := T.xm
  w := w
end
theorem mem_ix {α : Type} {l : List α} {x : α} (i : Nat) (h : l[i]? = some x := by rfl) : x ∈ l := List.mem_of_getElem? h
/-- one def -/
structure Df where
  ad : PySem.W.Frag → Addr
  name : Str
  qual : Str
  params : Arguments
  body : List Stmt
  scope : Scope
  dfl : List V := []
def fnA (K : PySem.W.Frag) (a : Addr) : He.FnW := match K.lookup a with
  | some ⟨_, _, .func fd, _⟩ => some (fd.name, fd.qualname, fd.params, fd.body, fd.scope, fd.globals, fd.closure, fd.builtins)
  | _ => none
def Df.val (d : Df) : He.FnW := some (d.name, d.qual, d.params, .stmts d.body, d.scope, mainGlobals, [], builtinsNs)
def Df.ok (K : PySem.W.Frag) (d : Df) : Bool := PySem.W.keepIn K (.ref (d.ad K)) && (match K.lookup (d.ad K) with
  | some ⟨_, _, .func fd, _⟩ => PySem.W.codeIn K fd.code d.qual && He.dflB K fd.defaults d.dfl
  | _ => false)
theorem Df.funD {K : PySem.W.Frag} {d : Df} (e : fnA K (d.ad K) = d.val) (c : d.ok K = true) : ∃ fd, FunD K d.name d.qual d.params d.body d.scope d.dfl [] (d.ad K) fd := by
  obtain ⟨kp, c2⟩ := He.ba c
  unfold fnA at e
  cases q : K.lookup (d.ad K) with
  | none =>
    rw [q] at c2
    cases c2
  | some o =>
    obtain ⟨oc, od, dt, osl⟩ := o
    rw [q] at c2 e
    cases dt with
    | func fd =>
      obtain ⟨n1, n2, n3, n4, n5, n6, n7, n8, n9, n10, n11, n12, n13, n14, n15⟩ := fd
      have e2 : (some (n1, n2, n3, n4, n5, n6, n7, n15) : He.FnW) = some (d.name, d.qual, d.params, .stmts d.body, d.scope, mainGlobals, [], builtinsNs) := e
      simp only [Option.some.injEq, Prod.mk.injEq] at e2
      obtain ⟨h1, h2, h3, h4, h5, h6, h7, h8⟩ := e2
      subst h1 h2 h3 h4 h5 h6 h7 h8
      have c3 : (PySem.W.codeIn K n13 d.qual && He.dflB K n8 d.dfl) = true := c2
      obtain ⟨k1, k3⟩ := He.ba c3
      exact ⟨_, ⟨oc, od, n8, n9, n10, n11, n12, n13, n14, osl, rfl, q, k1, He.dflB_ok k3, .inl rfl⟩, kp⟩
    | _ => cases c2
def obsM (t : Tab) (ex : PySem.W.Frag → Bool) (fn : List Df) (K : PySem.W.Frag) : He.AlD := (t.ok K && (ex K && fn.all fun d => d.ok K), fn.map fun d => fnA K (d.ad K))
def valM (fn : List Df) : He.AlD := (true, fn.map Df.val)
def SaysM (t : Tab) (ex : PySem.W.Frag → Bool) (fn : List Df) (K : PySem.W.Frag) : Prop := obsM t ex fn K = valM fn
def obsMG (n : Nat) (t : Tab) (ex : PySem.W.Frag → Bool) (fn : List Df) (g : Addr → Option Obj) : He.AlD := obsM t ex fn (He.frG g (He.asD g n ++ [PySem.cStatics, sysModules]))
def hookM (n : Nat) (t : Tab) (ex : PySem.W.Frag → Bool) (fn : List Df) : PySem.W.Hook where
  α := He.AlD
  obs := fun s => obsMG n t ex fn s.heap.get?
  val := fun _ => valM fn
  says := fun _ h => ∃ K : PySem.W.Frag, K.In h ∧ SaysM t ex fn K
  of := fun _ _ e => ⟨_, He.frG_in, e⟩
  keeps := fun _ _ _ ⟨K, hK, c⟩ k => ⟨K, PySem.W.Frag.In.keeps hK k, c⟩
theorem obsMG_eq {n : Nat} {t : Tab} {ex : PySem.W.Frag → Bool} {fn : List Df} {g : Addr → Option Obj} {s : Shared} (h : ∀ a, g a = s.heap.get? a) : obsMG n t ex fn g = (hookM n t ex fn).obs s := by
  have e : g = s.heap.get? := funext h
  rw [e] <;> rfl
section
variable {t : Tab} {ex : PySem.W.Frag → Bool} {fn : List Df} {K : PySem.W.Frag}
theorem SaysM.tab (c : SaysM t ex fn K) : TabOk t K := Tab.ok_of (He.ba (show (t.ok K && (ex K && fn.all fun d => d.ok K)) = true from congrArg (fun z : He.AlD => z.1) c)).1
theorem SaysM.ext (c : SaysM t ex fn K) : ex K = true := (He.ba (He.ba (show (t.ok K && (ex K && fn.all fun d => d.ok K)) = true from congrArg (fun z : He.AlD => z.1) c)).2).1
theorem SaysM.def_ (c : SaysM t ex fn K) (i : Nat) {d : Df} (h : fn[i]? = some d := by rfl) : ∃ fd, FunD K d.name d.qual d.params d.body d.scope d.dfl [] (d.ad K) fd := by
  have c2 := (He.ba (He.ba (show (t.ok K && (ex K && fn.all fun d => d.ok K)) = true from congrArg (fun z : He.AlD => z.1) c)).2).2
  have e : fn.map (fun d => fnA K (d.ad K)) = fn.map Df.val := congrArg (fun z : He.AlD => z.2) c
  have e2 : (fn.map fun d => fnA K (d.ad K))[i]? = (fn.map Df.val)[i]? := by rw [e]
  rw [List.getElem?_map, List.getElem?_map, h] at e2
  exact Df.funD (Option.some.inj e2) (List.all_eq_true.mp c2 d (List.mem_of_getElem? h))
end
/-- a table with its module's names -/
structure Tx (t : Tab) (ex : PySem.W.Frag → Bool) (fn : List Df) (K : PySem.W.Frag) (mg : Str → Option Value) (w : World) : Prop where
  c : SaysM t ex fn K
  g : ∀ x o, PySem.W.nsIn K mainGlobals x = some o → mg x = o
section
variable {t : Tab} {ex : PySem.W.Frag → Bool} {fn : List Df} {K : PySem.W.Frag} {mg : Str → Option Value} {w : World}
theorem Tx.tab (T : Tx t ex fn K mg w) : TabOk t K := T.c.tab
abbrev Tx.G (T : Tx t ex fn K mg w) : Ga := T.tab.G w
theorem Tx.bl (T : Tx t ex fn K mg w) {x : String} (i : Nat) (h : t.bl[i]? = some x := by rfl) : mg (Str.ofString x) = none := T.g _ _ (T.tab.bl x (mem_ix i h))
theorem Tx.gl (T : Tx t ex fn K mg w) {x : String} (i : Nat) (h : t.gl[i]? = some x := by rfl) : mg (Str.ofString x) = some (.ref (gaS K x)) := T.g _ _ (T.tab.gl x (mem_ix i h))
theorem Tx.fl (T : Tx t ex fn K mg w) {x : String} (i : Nat) (h : t.fl[i]? = some x := by rfl) : NoAt T.G x := fun c hc => T.tab.fl x (mem_ix i h) c hc
theorem Tx.stb (T : Tx t ex fn K mg w) : T.G.Stb := fun _ _ _ _ _ _ => trivial
theorem Tx.jv (T : Tx t ex fn K mg w) : ∀ F ad σ, T.G.jv F ad σ := fun _ _ _ => trivial
end
/-! ### the end -/
theorem walk_ofM {l : PySem.W.OpenLaw} {n k : Nat} {q : Program} {loose : List Str} {XP : (Str → Option Value) → Heap → Prop} {YP : World → Heap → Prop} {d : DefRec} {x : Str}
    (hn : l.most = some n) (hn2 : n ≤ sizeLine) (hdf : d.params.defaults = []) (hr : Room k callerA)
    (F : ∀ (w : World) (mg : Str → Option Value) (fa : Addr) (h : Heap), YP w h → h.Ns mainGlobals mg → mg d.name = some (.ref fa) →
      ∃ (K : PySem.W.Frag) (fd : FuncData) (sp : Sp), K.In h ∧ (∀ (s : Shared) (u : Value), BindsTo s fd ⟨[u], []⟩ [(x, u)]) ∧
        (∀ (H : Hp) (a : Addr) (ns : List Int), ns.length ≤ n → Only H → SqL K H a (ns.map V.int) → sp [.ref a] H (fun v _ => v = .bl true) fun _ _ _ => False) ∧
        ∀ base : Heap, K.In base → base.Ns mainGlobals mg → FnOk l.prog w K mg base (L2.CX l.prog w) k fa fd [x] sp) :
    PySem.W.WalkO q loose XP YP l.row.toRowW d [] (fun f vs => PySem.call f vs) := by
  refine Att.attach_call hn hdf fun w s₀ s₁ mg mb fa o pm cd doc a vs ns G Y ho hd hcd hmg hobj hints hlen hg => ?_
  obtain ⟨K, fd, sp, KX, hb, hsp, hF⟩ := F w mg fa _ Y G.T.g hmg
  refine law_call KX G.T.g G.T.b G.T.builtins G.T.nolimit hg hobj hints (Nat.le_trans hlen hn2) hr hF hb (fun H hO hS => hsp H a ns hlen hO hS) fun H e s' z => ?_
  obtain ⟨_, _, _, _, _, _, _, _, _, _, _, _, z⟩ := z
  exact z.elim
theorem sp_law {G : Ga} {m : MF} {H : Hp} {a : Addr} {ns : List Int} (hS : SqL G.K H a (ns.map V.int)) (h : ∃ st, m [.d (.lck ns)] [] = .ok (.d (.bl true)) st) : spM G m [.ref a] H (fun v _ => v = .bl true) fun _ _ _ => False := by
  obtain ⟨st, e⟩ := h
  refine ⟨H, [], [], [.d (.lck ns)], ⟨Same.refl _, rfl, List.nodup_nil, fun _ h => (by simp at h), fun n a o h _ => (by simp at h)⟩, .cons (.lck hS) .nil, ?_⟩
  rw [e]
  intro H' F' ad' _ _ v r
  cases r
  rfl

section
variable {G : Ga} {W : L2.WX} {X : Cx}
@[simp] theorem withD_nil (f : MF) : withD [] f = f := by
  funext ds st
  show f (ds ++ []) st = _
  rw [List.append_nil]
/-! a < b < c -/
def mChain (f f' : O2) (a b c : ME) : ME := fun ρ st => (a ρ st).bind fun x st => (b ρ st).bind fun y st => (f x y st).bind fun z st => match z with
  | .d (.bl true) => (c ρ st).bind fun w st => f' y w st
  | .d (.bl false) => .ok (.d (.bl false)) st
  | _ => .bad
theorem sim_chain {r r' : R2} {f f' : O2} {ta tb tc : TE} {ma mb mc : ME} (hr : SimR2 G r f) (hr' : SimR2 G r' f') (ha : SimE G W ta ma) (hb : SimE G W tb mb) (hc : SimE G W tc mc) : SimE G W (tChain r r' ta tb tc) (mChain f f' ma mb mc) := by
  intro σ ρ H F ad st Q R S h
  refine simE_bind ha R S h fun x v st1 H1 F1 ad1 _ R1 S1 rv h1 => ?_
  refine simE_bind hb R1 S1 h1 fun y w st2 H2 F2 ad2 e2 R2 S2 rw h2 => ?_
  refine hr (fun c d H' => W c d σ H') v w x y H2 F2 ad2 st2 _ (rv.ext e2) rw S2 ?_
  have h3 := Po.bind h2
  revert h3
  generalize f x y st2 = o
  intro h3
  cases o with
  | bad => exact h3
  | er c fs st3 => exact h3
  | ok z st3 =>
    intro H3 F3 ad3 e3 S3 u ru
    have h4 := h3 H3 F3 ad3 e3 S3
    cases z with
    | ref n => exact h4.elim
    | d z => cases z with
      | bl b =>
        cases ru
        refine ⟨b, rfl, ?_⟩
        cases b with
        | true =>
          rw [if_pos rfl]
          exact simE_bind hc (R2.ext e3) S3 h4 fun q t st4 H4 F4 ad4 e4 R4 S4 rt h5 => hr' _ w t y q H4 F4 ad4 st4 Q ((rw.ext e3).ext e4) rt S4 h5
        | false =>
          rw [if_neg Bool.false_ne_true]
          exact fin_same S3 h4 _ (.bl _)
      | _ => exact h4.elim
theorem de_chain {op op' : CmpOp} {r r' : R2} {f f' : O2} {a b c : Expr} {pos : Pos} {ma mb mc : ME} (ho : OpR X (compareOp op) r) (ho' : OpR X (compareOp op') r') (hr : SimR2 G r f) (hr' : SimR2 G r' f') (ha : DE G W X a ma) (hb : DE G W X b mb) (hc : DE G W X c mc) (hm : lastMarks [op, op'] [b, c] = false := by with_unfolding_all rfl) : DE G W X (.Compare a [op, op'] [b, c] pos) (mChain f f' ma mb mc) := by
  obtain ⟨ta, pa, sa⟩ := ha
  obtain ⟨tb, pb, sb⟩ := hb
  obtain ⟨tc, pc, sc⟩ := hc
  exact ⟨_, pe_chain ho ho' pa pb pc hm, sim_chain hr hr' sa sb sc⟩
theorem dt_chain {op op' : CmpOp} {r r' : R2} {f f' : O2} {a b c : Expr} {pos : Pos} {ma mb mc : ME} (hp : ∀ {ta tb tc : TE}, PE X a ta → PE X b tb → PE X c tc → PT X (.Compare a [op, op'] [b, c] pos) (tTest (tChain r r' ta tb tc))) (hr : SimR2 G r f) (hr' : SimR2 G r' f') (ha : DE G W X a ma) (hb : DE G W X b mb) (hc : DE G W X c mc) : DT G W X (.Compare a [op, op'] [b, c] pos) (mTst (mChain f f' ma mb mc)) := by
  obtain ⟨ta, pa, sa⟩ := ha
  obtain ⟨tb, pb, sb⟩ := hb
  obtain ⟨tc, pc, sc⟩ := hc
  exact ⟨_, hp pa pb pc, sim_tst (sim_chain hr hr' sa sb sc)⟩
/-! xs.extend(ys), ys a list or a tuple -/
theorem ext_tup (l : Addr) (items : Array Value) (n : Nat) (b : Addr) (items2 : Array Value) (n2 : Nat) (od : Option Addr) (sl : Array (Option Value)) (hs0 : ¬(!items.isEmpty && Builtin.List.listTooLong (items.size + items2.size)) = true) (hs1 : items.size ≤ sizeLine) (hs2 : items.size + items2.size ≤ sizeLine + 1) :
    Meets (Builtin.«list.extend» ⟨[.ref l, .ref b], []⟩) (fun _ R s => s.heap.get? l = some { cls := .type "list", dict := none, data := .seq items n, slots := #[] } ∧ s.heap.get? b = some { cls := .type "tuple", dict := od, data := .seq items2 n2, slots := sl } ∧ R (.ok (.ret Value.none)) { s with heap := s.heap.update l (Obj.mapSeq fun x => x ++ items2), toks := s.toks }) :=
  .of_wp fun prog w A R s h => by
    obtain ⟨hp, g, d, tk, os⟩ := s
    obtain ⟨hl, hb, h⟩ := h
    have f1 := AutoSeq1.idx_int
    have f2 := AutoSeq1.sub_tuple_tuple
    have f3 := AutoSeq1.sub_list_list
    have f4 := AutoSeq1.sub_tuple_list
    have f5 := AutoSeq1.sub_list_tuple
    have hz' : (items ++ items2).size ≤ sizeLine + 1 := by rw [Array.size_append]; exact hs2
    wp_walk using (wpAny_updateSeq hl rfl (hz := hs1) (_hz' := hz')), wpAny_loadPart' hl, wpAny_loadPart' hb
    exact ⟨_, rfl, h⟩
def rExtendA (K : PySem.W.Frag) : V → List V → Hp → VK → Prop := fun x vs H Q => ∃ l b xs zs, x = .ref l ∧ vs = [.ref b] ∧ H l = some (.lst xs) ∧ (H b = some (.lst zs) ∨ SqT K H b zs) ∧ xs.length + zs.length ≤ sizeLine ∧ Q .non (upd H l (.lst (xs ++ zs)))
theorem mt_extendA : MtM X "list.extend" (rExtendA X.K) := by
  intro pins s σ H x vs v us Q I rx rv h
  obtain ⟨l, b, xs, zs, rfl, rfl, hH, hB | hB, hz, q⟩ := h
  · exact mt_extend pins s σ H _ _ v us Q I rx rv ⟨l, b, xs, zs, rfl, rfl, hH, hB, hz, q⟩
  · cases rx
    obtain ⟨u, rfl, ru⟩ := rv.one
    cases ru
    obtain ⟨z, its, n, r, hl, e⟩ := I.lstM hH
    obtain ⟨its2, r2, p2, _⟩ := I.tuple hB
    obtain ⟨o2, g2, c2, n2, d2⟩ := p2
    have hl2 := r2.length
    have hsz : its.toArray.size + its2.toArray.size ≤ sizeLine := by rw [List.size_toArray, List.size_toArray]; omega
    have hlong : ¬ (!its.toArray.isEmpty && Builtin.List.listTooLong (its.toArray.size + its2.toArray.size)) = true := by
      rw [notLongL hsz, Bool.and_false]
      exact Bool.false_ne_true
    obtain ⟨oc, od, dt, sl⟩ := o2
    simp only at c2 d2
    subst c2 d2
    refine call_meets F.slot_list_extend ⟨_, e, rfl⟩ F.entry_list_extend (F.args_list_extend_2 _ _)
      (ext_tup l its.toArray n b its2.toArray n2 od sl hlong (by rw [List.size_toArray]; omega) (by omega)) ⟨e, g2, ?_⟩
    refine ⟨.non, _, I.lset (its' := its ++ its2) hH e (by simp) (r.append r2) ?_, rfl, q⟩
    rw [List.length_append]
    omega
def seqD : Va → Option (List D)
  | .d (.lst ys) => some ys
  | .d (.tup ys) => some ys
  | _ => none
def oExtend : OM
  | .ref n, [y], st => match st[n]?, seqD y with
    | some (.lst xs), some ys => if xs.length + ys.length ≤ cap then .ok (.d .non) (st.set n (.lst (xs ++ ys.map Va.d))) else .bad
    | _, _ => .bad
  | _, _, _ => .bad
theorem sim_extend : SimM G (rExtendA G.K) oExtend := by
  intro Wv x dx vs ds H F ad st Q rx rv S h
  cases dx with
  | d x => cases ds with
    | nil => exact h.elim
    | cons d ds => cases ds <;> exact h.elim
  | ref n =>
    cases rv with
    | nil => exact h.elim
    | @cons v y _ _ r t => cases t with
      | cons _ _ => exact h.elim
      | nil =>
        obtain ⟨a, ha, rfl⟩ := rx
        replace h : Po G Wv H F ad (QV G Q) (match st[n]?, seqD y with
          | some (.lst xs), some ys => if xs.length + ys.length ≤ cap then .ok (.d .non) (st.set n (.lst (xs ++ ys.map Va.d))) else .bad
          | _, _ => .bad) := h
        cases z : st[n]? with
        | none => rw [z] at h; exact h.elim
        | some ob =>
          rw [z] at h
          cases ob with
          | lst xs =>
            obtain ⟨ws, q1, q2⟩ := S.get ha z
            have key : ∀ (b : Addr) (us : List V) (es : List D), v = .ref b → (H b = some (.lst us) ∨ SqT G.K H b us) → Reps G F us es → Po G Wv H F ad (QV G Q) (if xs.length + es.length ≤ cap then .ok (.d .non) (st.set n (.lst (xs ++ es.map Va.d))) else .bad) → rExtendA G.K (.ref a) [v] H Q := by
              intro b us es e hb t1 h
              subst e
              split at h
              · rename_i hc
                refine ⟨a, b, ws, us, rfl, rfl, q1, hb, by rw [Paired.length q2, t1.length]; exact cap_ok hc, ?_⟩
                have E := ext_mut (o := .lst (ws ++ us)) S ha
                exact h _ _ _ E (S.mut (m := .lst (xs ++ es.map Va.d)) ha ⟨_, upd_same, Paired.append q2 t1.va⟩) _ .non
              · exact h.elim
            cases y with
            | ref _ => exact h.elim
            | d y => cases r with
              | @lst b us es g1 t1 => exact key b us es rfl (.inl (S.sub _ _ g1)) t1 h
              | @tup b us es g1 t1 => exact key b us es rfl (.inr (sqT_same S.sub g1)) t1 h
              | _ => exact h.elim
          | _ => exact h.elim
theorem mt_extend' (hK : X.K = G.K) : MtM X "list.extend" (rExtendA G.K) := by rw [← hK]; exact mt_extendA
end
theorem fund_ok0 {P : Program} {w : World} {K : PySem.W.Frag} {mg : Str → Option Value} {base : Heap} {x qual : Str} {params : Arguments} {body : List Stmt} {scope : Scope} {dvs : List V} {kws : List (Str × V)} {f : Addr} {fd : FuncData} {N ps : List Str} {k : Nat} {sp : Sp} (F : FunD K x qual params body scope dvs kws f fd) (S : FnScope N ps scope) (len : ∀ vs H Q E, sp vs H Q E → vs.length = ps.length)
    (hbody : ∀ (cdv : Value) (A : Around) (outer : List Env) (s : Shared) (H : Hp) (vs : List V) (Q : VK) (E : XK), Room k (A.deeper (PyProof.Rows.envOfC qual scope s.heap.objs.size f cdv)) → sp vs H Q E →
      ∃ t, PSs (cxOf CX0 P w K mg base N qual scope f cdv A outer s H E).nox body t ∧ t { nx := fun _ H' => Q .non H', rt := Q } (L2.start N vs) H) : FnOk P w K mg base CX0 (k + 1) f fd ps sp :=
  F.ok S len fun cdv A outer s H vs Q E hr h => by
    obtain ⟨t, h1, h2⟩ := hbody cdv A outer s H vs Q E hr h
    exact ⟨t, h1.nox, h2⟩

section
variable {G : Ga} {W : L2.WX} {X : Cx}
/-- a way that is not gone -/
def mBad : MS := fun _ _ => .bad
theorem ds_never {s : Stmt} (h : PS X s tNever) : DS G W X s mBad := ⟨_, h, fun σ ρ H F ad st D R S h => h.elim⟩
/-! from here on the thing in slot i is known to be itself -/
def isRefD : D → Bool
  | .lst _ => true
  | .tup _ => true
  | .obj _ _ => true
  | _ => false
def isFlatD : D → Bool
  | .non => true
  | .bl _ => true
  | .int _ => true
  | .str _ => true
  | _ => false
open Classical in
noncomputable def mId (i : Nat) (b : MS) : MS := fun ρ st => match ρ[i]? with
  | some (some (.d x)) => if isRefD x = true then (if h : ∃ r, ∀ a, b (ρ.set i (some (.d (.idn x a)))) st = r then h.choose else .bad)
    else if isFlatD x = true then b ρ st else .bad
  | _ => .bad
theorem mId_eq {i : Nat} {b : MS} {ρ : Ev} {st : Sto} {x : D} {r : Out} (h1 : ρ[i]? = some (some (.d x))) (hx : isRefD x = true) (h : ∀ a, b (ρ.set i (some (.d (.idn x a)))) st = r) : mId i b ρ st = r := by
  have q : ∃ r, ∀ a, b (ρ.set i (some (.d (.idn x a)))) st = r := ⟨r, h⟩
  unfold mId
  rw [h1]
  simp only [hx, if_true, dif_pos q]
  rw [← q.choose_spec 0, h 0]
theorem mId_flat {i : Nat} {b : MS} {ρ : Ev} {st : Sto} {x : D} (h1 : ρ[i]? = some (some (.d x))) (hx : isFlatD x = true) : mId i b ρ st = b ρ st := by
  unfold mId
  rw [h1]
  cases x <;> first | rfl | cases hx
theorem dss_id {i : Nat} {ss : List Stmt} {m : MS} (h : DSs G W X ss m) : DSs G W X ss (mId i m) := by
  obtain ⟨t, p, s⟩ := h
  refine ⟨t, p, ?_⟩
  intro σ ρ H F ad st D R S h
  unfold mId at h
  split at h
  · rename_i x e
    obtain ⟨v, h1, h2⟩ := R.at_ i _ e
    split at h
    · rename_i hx
      split at h
      · rename_i hc
        have hr : ∃ a, v = .ref a := by
          cases x <;> first | (cases hx) | skip
          all_goals (cases h2; exact ⟨_, rfl⟩)
        obtain ⟨a, rfl⟩ := hr
        rw [← hc.choose_spec a] at h
        refine s σ _ H F ad st D ⟨by rw [List.length_set]; exact R.len, fun j d ej => ?_, R.j⟩ S h
        by_cases q : i = j
        · subst q
          rw [List.getElem?_set_self (List.getElem?_eq_some_iff.mp e).1] at ej
          cases ej
          exact ⟨_, h1, .idn h2⟩
        · rw [List.getElem?_set_ne q] at ej
          exact R.at_ j d ej
      · exact h.elim
    · split at h
      · exact s σ ρ H F ad st D R S h
      · exact h.elim
  · exact h.elim
end

/-! M13: mirrors worked out -/
theorem Res.bind_ok {α β : Type} (a : α) (st : Sto) (f : α → Sto → Res β) : (Res.ok a st).bind f = f a st := rfl
theorem Res.bind_er {α β : Type} (c : String) (fs : List (String × Va)) (st : Sto) (f : α → Sto → Res β) : (Res.er c fs st : Res α).bind f = .er c fs st := rfl
theorem Res.bind_bad {α β : Type} (f : α → Sto → Res β) : (Res.bad : Res α).bind f = .bad := rfl
theorem mVar_0 (x : Va) (ρ : Ev) (st : Sto) : mVar 0 (some x :: ρ) st = .ok (strip x) st := rfl
theorem mVar_s (n : Nat) (x : Option Va) (ρ : Ev) (st : Sto) : mVar (n + 1) (x :: ρ) st = mVar n ρ st := rfl
theorem mVarI_0 (x : Va) (ρ : Ev) (st : Sto) : mVarI 0 (some x :: ρ) st = .ok x st := rfl
theorem mVarI_s (n : Nat) (x : Option Va) (ρ : Ev) (st : Sto) : mVarI (n + 1) (x :: ρ) st = mVarI n ρ st := rfl
theorem strip_ref (n : Nat) : strip (.ref n) = .ref n := rfl
theorem strip_non : strip (.d .non) = .d .non := rfl
theorem strip_bl (b : Bool) : strip (.d (.bl b)) = .d (.bl b) := rfl
theorem strip_int (b : Int) : strip (.d (.int b)) = .d (.int b) := rfl
theorem strip_str (b : Str) : strip (.d (.str b)) = .d (.str b) := rfl
theorem strip_lst (b : List D) : strip (.d (.lst b)) = .d (.lst b) := rfl
theorem strip_tup (b : List D) : strip (.d (.tup b)) = .d (.tup b) := rfl
theorem strip_obj (c : String) (b : List (String × D)) : strip (.d (.obj c b)) = .d (.obj c b) := rfl
theorem strip_lck (b : List Int) : strip (.d (.lck b)) = .d (.lck b) := rfl
theorem strip_idn (x : D) (a : Addr) : strip (.d (.idn x a)) = .d x := rfl
theorem mFun_eq (n ns : Nat) (b : MS) (ds : List Va) (st : Sto) (h : ds.length = n) : mFun n ns b ds st = (match b (ds.map some ++ List.replicate (ns - n) none) st with
  | .nx _ st => .ok (.d .non) st
  | .rt v st => .ok v st
  | .er c fs _ st => .er c fs st
  | _ => .bad) := if_pos h
def retO : Out → Res Va
  | .nx _ st => .ok (.d .non) st
  | .rt v st => .ok v st
  | .er c fs _ st => .er c fs st
  | _ => .bad
theorem mFun_eq' (n ns : Nat) (b : MS) (ds : List Va) (st : Sto) (h : ds.length = n) : mFun n ns b ds st = retO (b (ds.map some ++ List.replicate (ns - n) none) st) := by
  rw [mFun_eq _ _ _ _ _ h]
  cases b (ds.map some ++ List.replicate (ns - n) none) st <;> rfl
theorem outE_ok (v : Va) (st : Sto) (ρ : Ev) (k : Va → Sto → Out) : outE (.ok v st) ρ k = k v st := rfl
theorem outT_ok (v : Bool) (st : Sto) (ρ : Ev) (k : Bool → Sto → Out) : outT (.ok v st) ρ k = k v st := rfl
theorem outE_er (c : String) (fs : List (String × Va)) (st : Sto) (ρ : Ev) (k : Va → Sto → Out) : outE (.er c fs st) ρ k = .er c fs ρ st := rfl
def seqO (o : Out) (b : MS) : Out := match o with
  | .nx ρ st => b ρ st
  | o => o
theorem mSeq_eq (a b : MS) (ρ : Ev) (st : Sto) : mSeq a b ρ st = seqO (a ρ st) b := by
  unfold mSeq seqO
  cases a ρ st <;> rfl
theorem seqO_nx (ρ : Ev) (st : Sto) (b : MS) : seqO (.nx ρ st) b = b ρ st := rfl
theorem seqO_rt (v : Va) (st : Sto) (b : MS) : seqO (.rt v st) b = .rt v st := rfl
theorem seqO_er (c : String) (fs : List (String × Va)) (ρ : Ev) (st : Sto) (b : MS) : seqO (.er c fs ρ st) b = .er c fs ρ st := rfl
theorem retO_rt (v : Va) (st : Sto) : retO (.rt v st) = .ok v st := rfl
theorem retO_nx (ρ : Ev) (st : Sto) : retO (.nx ρ st) = .ok (.d .non) st := rfl
theorem retO_er (c : String) (fs : List (String × Va)) (ρ : Ev) (st : Sto) : retO (.er c fs ρ st) = .er c fs st := rfl
theorem seqO_ite (c : Prop) [Decidable c] (x y : Out) (b : MS) : seqO (if c then x else y) b = if c then seqO x b else seqO y b := by split <;> rfl
theorem retO_ite (c : Prop) [Decidable c] (x y : Out) : retO (if c then x else y) = if c then retO x else retO y := by split <;> rfl
theorem bind_ite {α β : Type} (c : Prop) [Decidable c] (x y : Res α) (f : α → Sto → Res β) : (if c then x else y).bind f = if c then x.bind f else y.bind f := by split <;> rfl
theorem outE_ite (c : Prop) [Decidable c] (x y : Res Va) (ρ : Ev) (k : Va → Sto → Out) : outE (if c then x else y) ρ k = if c then outE x ρ k else outE y ρ k := by split <;> rfl
theorem outT_ite (c : Prop) [Decidable c] (x y : Res Bool) (ρ : Ev) (k : Bool → Sto → Out) : outT (if c then x else y) ρ k = if c then outT x ρ k else outT y ρ k := by split <;> rfl
theorem fdiv_ok {i j : Int} (st : Sto) (h : CDivX i j) : oFdiv (.d (.int i)) (.d (.int j)) st = .ok (.d (.int (i.fdiv j))) st := if_pos h
theorem mod_ok {i j : Int} (st : Sto) (h : j ≠ 0) : oMod (.d (.int i)) (.d (.int j)) st = .ok (.d (.int (i.fmod j))) st := if_pos h
theorem mul_ok {i j : Int} (st : Sto) (h : CMulW i j) : oMul (.d (.int i)) (.d (.int j)) st = .ok (.d (.int (i * j))) st := if_pos h
theorem add_ii (i j : Int) (st : Sto) : oAdd (.d (.int i)) (.d (.int j)) st = .ok (.d (.int (i + j))) st := rfl
theorem sub_ii (i j : Int) (st : Sto) : oSub (.d (.int i)) (.d (.int j)) st = .ok (.d (.int (i - j))) st := rfl
theorem lt_ii (i j : Int) (st : Sto) : oLt (.d (.int i)) (.d (.int j)) st = .ok (.d (.bl (decide (i < j)))) st := rfl
theorem le_ii (i j : Int) (st : Sto) : oLe (.d (.int i)) (.d (.int j)) st = .ok (.d (.bl (decide (i ≤ j)))) st := rfl
theorem gt_ii (i j : Int) (st : Sto) : oGt (.d (.int i)) (.d (.int j)) st = .ok (.d (.bl (decide (j < i)))) st := rfl
theorem ge_ii (i j : Int) (st : Sto) : oGe (.d (.int i)) (.d (.int j)) st = .ok (.d (.bl (decide (j ≤ i)))) st := rfl
theorem eq_ii (i j : Int) (st : Sto) : oEq (.d (.int i)) (.d (.int j)) st = .ok (.d (.bl (decide (i = j)))) st := rfl
theorem ne_ii (i j : Int) (st : Sto) : oNe (.d (.int i)) (.d (.int j)) st = .ok (.d (.bl (!decide (i = j)))) st := rfl
theorem ix_lst (xs : List D) (i : Int) (x : D) (st : Sto) (h : atI xs i = some x) : oIx (.d (.lst xs)) (.d (.int i)) st = .ok (.d x) st := by
  unfold oIx
  simp only [h]
theorem ix_tup (xs : List D) (i : Int) (x : D) (st : Sto) (h : atI xs i = some x) : oIx (.d (.tup xs)) (.d (.int i)) st = .ok (.d x) st := by
  unfold oIx
  simp only [h]
theorem ix_lck (xs : List Int) (i : Int) (x : Int) (st : Sto) (h : atI xs i = some x) : oIx (.d (.lck xs)) (.d (.int i)) st = .ok (.d (.int x)) st := by
  unfold oIx
  simp only [h]
theorem ix_ref (n : Nat) (xs : List Va) (i : Int) (x : Va) (st : Sto) (h0 : st[n]? = some (.lst xs)) (h : atI xs i = some x) : oIx (.ref n) (.d (.int i)) st = .ok x st := by
  unfold oIx
  simp only [h0, h]
/-- the value of a def that knows nothing of our cells -/
theorem pureF_d {f : MF} {ds : List Va} {es : List D} {st st1 : Sto} {x : D} (h0 : ds? ds = some es) (h : f ds [] = .ok (.d x) st1) : pureF f ds st = .ok (.d x) st := by
  unfold pureF
  rw [h0, h]
  simp only [rsv_d]
theorem pureF_e {f : MF} {ds : List Va} {es : List D} {st st1 : Sto} {c : String} {fs gs : List (String × Va)} (h0 : ds? ds = some es) (h : f ds [] = .er c fs st1) (hr : rsvF st1 (st1.length + 1) fs = some gs) : pureF f ds st = .er c gs st := by
  unfold pureF
  rw [h0, h]
  simp only [hr]
theorem pureF_r {f : MF} {ds : List Va} {es : List D} {st st1 : Sto} {v : Va} {x : D} (h0 : ds? ds = some es) (h : f ds [] = .ok v st1) (hr : rsv st1 (st1.length + 1) v = some x) : pureF f ds st = .ok (.d x) st := by
  unfold pureF
  rw [h0, h]
  simp only [hr]
/-! lists that are made item by item -/
theorem compM_map {α : Type} {g : α → Va} {f : α → Va} {tg : MG} {te : ME} {ρ0 : Ev} {st : Sto} : ∀ {l : List α}, (∀ x ∈ l, ∃ ρ1, tg (g x) ρ0 = some ρ1 ∧ te ρ1 st = .ok (f x) st) → compM none tg mYes te ρ0 (l.map g) st = .ok (l.map f) st
  | [], _ => by
    rw [List.map_nil]
    unfold compM
    rw [if_pos (show gOk none st from trivial)]
    rfl
  | x :: l, h => by
    obtain ⟨ρ1, h1, h2⟩ := h x (List.mem_cons_self ..)
    rw [List.map_cons]
    unfold compM
    rw [if_pos (show gOk none st from trivial), h1]
    simp only [mYes, noEr, Res.bind_ok, if_true, h2]
    rw [compM_map fun y hy => h y (List.mem_cons_of_mem _ hy)]
    rfl
theorem mLc_map {α : Type} (l : List α) (g : α → Va) (f : α → D) {own : List Nat} {mi : MI} {tg : MG} {te : ME} {ρ : Ev} {st st1 : Sto} (h : mi ρ st = .ok ⟨l.map g, none⟩ st1) (hl : l.length ≤ cap)
    (he : ∀ x ∈ l, ∃ ρ1, tg (g x) (wipeE ρ own) = some ρ1 ∧ te ρ1 st1 = .ok (.d (f x)) st1) : mLc own mi tg mYes te ρ st = .ok (.d (.lst (l.map f))) st1 := by
  unfold mLc mLcG
  rw [h]
  simp only [Res.bind_ok, List.length_map, if_pos hl]
  rw [compM_map (f := fun x => Va.d (f x)) he]
  simp only [Res.bind_ok]
  rw [show l.map (fun x => Va.d (f x)) = (l.map f).map Va.d by rw [List.map_map]; rfl, ds?_map]
theorem compM_inv {I : Sto → Prop} {R : D → Prop} {tg : MG} {te : ME} {ρ0 : Ev} : ∀ {l : List Va} {st : Sto}, I st → (∀ x ∈ l, ∀ st, I st → ∃ ρ1 y st1, tg x ρ0 = some ρ1 ∧ te ρ1 st = .ok (.d y) st1 ∧ R y ∧ I st1) → ∃ (ds : List D) (st1 : Sto), compM none tg mYes te ρ0 l st = .ok (ds.map Va.d) st1 ∧ ds.length = l.length ∧ (∀ y ∈ ds, R y) ∧ I st1
  | [], st, hi, _ => ⟨[], st, by unfold compM; rw [if_pos (show gOk none st from trivial)]; rfl, rfl, fun y hy => (by cases hy), hi⟩
  | x :: l, st, hi, h => by
    obtain ⟨ρ1, y, st1, h1, h2, h3, h4⟩ := h x (List.mem_cons_self ..) st hi
    obtain ⟨ds, st2, h5, h6, h7, h8⟩ := compM_inv h4 fun z hz => h z (List.mem_cons_of_mem _ hz)
    refine ⟨y :: ds, st2, ?_, by rw [List.length_cons, List.length_cons, h6], ?_, h8⟩
    · unfold compM
      rw [if_pos (show gOk none st from trivial), h1]
      simp only [mYes, noEr, Res.bind_ok, if_true, h2, h5, List.map_cons]
    · intro z hz
      rcases List.mem_cons.mp hz with rfl | hz
      · exact h3
      · exact h7 z hz
theorem mLc_inv {I : Sto → Prop} {R : D → Prop} {own : List Nat} {mi : MI} {tg : MG} {te : ME} {ρ : Ev} {st st0 : Sto} {l : List Va} (h : mi ρ st = .ok ⟨l, none⟩ st0) (hl : l.length ≤ cap) (hi : I st0)
    (he : ∀ x ∈ l, ∀ st, I st → ∃ ρ1 y st1, tg x (wipeE ρ own) = some ρ1 ∧ te ρ1 st = .ok (.d y) st1 ∧ R y ∧ I st1) : ∃ (ds : List D) (st1 : Sto), mLc own mi tg mYes te ρ st = .ok (.d (.lst ds)) st1 ∧ ds.length = l.length ∧ (∀ y ∈ ds, R y) ∧ I st1 := by
  obtain ⟨ds, st1, h1, h2, h3, h4⟩ := compM_inv hi he
  refine ⟨ds, st1, ?_, h2, h3, h4⟩
  unfold mLc mLcG
  rw [h]
  simp only [Res.bind_ok, if_pos hl, h1, ds?_map]
/-! loops -/
theorem forM_inv {I : Nat → Ev → Sto → Prop} {tg : MG} {b : MS} : ∀ {l : List Va} {k : Nat} {ρ : Ev} {st : Sto}, I k ρ st → (∀ j x, l[j]? = some x → ∀ ρ st, I (k + j) ρ st → ∃ ρ1 ρ2 st2, tg x ρ = some ρ1 ∧ b ρ1 st = .nx ρ2 st2 ∧ I (k + j + 1) ρ2 st2) → ∃ ρ1 st1, forM none tg b l ρ st = .nx ρ1 st1 ∧ I (k + l.length) ρ1 st1
  | [], k, ρ, st, hi, _ => ⟨ρ, st, by unfold forM; rw [if_pos (show gOk none st from trivial)], hi⟩
  | x :: l, k, ρ, st, hi, h => by
    obtain ⟨ρ1, ρ2, st2, h1, h2, h3⟩ := h 0 x rfl ρ st hi
    obtain ⟨ρ3, st3, h4, h5⟩ := forM_inv (k := k + 1) (l := l) (I := I) h3 fun j y hj ρ st hI => by
      have := h (j + 1) y hj ρ st (by rw [show k + (j + 1) = k + 1 + j by omega]; exact hI)
      rw [show k + (j + 1) + 1 = k + 1 + j + 1 by omega] at this
      exact this
    refine ⟨ρ3, st3, ?_, by rw [List.length_cons, show k + (l.length + 1) = k + 1 + l.length by omega]; exact h5⟩
    unfold forM
    rw [if_pos (show gOk none st from trivial), h1]
    simp only [h2, h4]
theorem mFor_inv {I : Nat → Ev → Sto → Prop} {mi : MI} {tg : MG} {b : MS} {l : List Va} {ρ : Ev} {st st0 : Sto} (h : mi ρ st = .ok ⟨l, none⟩ st0) (hi : I 0 ρ st0)
    (hb : ∀ j x, l[j]? = some x → ∀ ρ st, I j ρ st → ∃ ρ1 ρ2 st2, tg x ρ = some ρ1 ∧ b ρ1 st = .nx ρ2 st2 ∧ I (j + 1) ρ2 st2) : ∃ ρ1 st1, mFor mi tg b ρ st = .nx ρ1 st1 ∧ I l.length ρ1 st1 := by
  unfold mFor
  rw [h]
  have := forM_inv (k := 0) (I := I) (tg := tg) (b := b) hi fun j x hj ρ st hI => by
    rw [Nat.zero_add] at hI
    obtain ⟨a, b, c, d⟩ := hb j x hj ρ st hI
    exact ⟨a, b, c, by rw [Nat.zero_add]; exact d⟩
  rw [Nat.zero_add] at this
  exact this
theorem rangeV_eq (lo : Int) (n : Nat) : rangeV lo n = (List.range n).map fun (i : Nat) => Va.d (.int (lo + i)) := rfl
theorem rangeV_len (lo : Int) (n : Nat) : (rangeV lo n).length = n := by simp [rangeV]
theorem rangeV_get {lo : Int} {n j : Nat} {x : Va} (h : (rangeV lo n)[j]? = some x) : x = .d (.int (lo + j)) ∧ j < n := by
  unfold rangeV at h
  rw [List.getElem?_map] at h
  by_cases q : j < n
  · rw [List.getElem?_range q] at h
    cases h
    exact ⟨rfl, q⟩
  · rw [List.getElem?_eq_none (by simp; omega)] at h
    cases h
/-! while -/
theorem mWhile_inv {c : MT} {b : MS} {I : Nat → Ev → Sto → Prop} {Q : Ev → Sto → Prop} (h0 : ∀ n ρ st, I n ρ st → (c ρ st = .ok false st ∧ Q ρ st) ∨ ∃ st1 ρ2 st2 m, c ρ st = .ok true st1 ∧ b ρ st1 = .nx ρ2 st2 ∧ m < n ∧ I m ρ2 st2) : ∀ {n : Nat} {ρ : Ev} {st : Sto}, I n ρ st → ∃ ρ1 st1, mWhile c b ρ st = .nx ρ1 st1 ∧ Q ρ1 st1 := by
  intro n
  induction n using Nat.strongRecOn with
  | _ n ih =>
    intro ρ st hi
    rw [mWhile_step]
    rcases h0 n ρ st hi with ⟨h1, h2⟩ | ⟨st1, ρ2, st2, m, h1, h2, h3, h4⟩
    · rw [h1]
      exact ⟨ρ, st, rfl, h2⟩
    · rw [h1]
      obtain ⟨ρ3, st3, h5, h6⟩ := ih m h3 h4
      refine ⟨ρ3, st3, ?_, h6⟩
      rw [outT_ok]
      simp only [if_true, h2]
      exact h5
theorem gT_tup (n : Nat) (m : List Va → Ev → Option Ev) (xs : List D) (ρ : Ev) : gT n m (.d (.tup xs)) ρ = if xs.length = n then m (xs.map Va.d) ρ else none := rfl
theorem gL_lst (n : Nat) (m : List Va → Ev → Option Ev) (xs : List D) (ρ : Ev) : gL n m (.d (.lst xs)) ρ = if xs.length = n then m (xs.map Va.d) ρ else none := rfl
theorem gsC_cons (m : MG) (r : List Va → Ev → Option Ev) (x : Va) (xs : List Va) (ρ : Ev) : gsC m r (x :: xs) ρ = (m x ρ).bind (r xs) := rfl
theorem gsN_nil (ρ : Ev) : gsN [] ρ = some ρ := rfl
theorem getF_o (f c : String) (fs : List (String × D)) (st : Sto) : getF f (.d (.obj c fs)) st = (fs.lookup f).map Va.d := rfl
theorem getF_r (f : String) (n : Nat) (st : Sto) : getF f (.ref n) st = (match st[n]? with
    | some (.obj _ fs) => fs.lookup f
    | _ => none) := rfl

/-! M14: the parts that all laws share, worked out: pools, draws, greatest divisors -/
noncomputable def gDraw : MF := mFun 2 3 (mSeq (mIfS (mTst (mBin oGt (mBin oIx (mVar 0) (mC (.int 0))) (mC (.int 0)))) (mSeq (mAsg (mBin oMod (mCB oInt (mCons (mBin oIx (mVar 0) (mC (.int 0))) mNil)) (mVar 1)) (gN 2))
      (mSeq (mSetI (mVar 0) (mC (.int 0)) (mBin oFdiv (mBin oIx (mVar 0) (mC (.int 0))) (mVar 1)))
      (mRet (mVar 2)))) mSkip)
      (mSeq (mSetI (mVar 0) (mC (.int 1)) (mBin oMod (mCB oInt (mCons (mBin oAdd (mBin oMul (mBin oIx (mVar 0) (mC (.int 1))) (mC (.int 48271))) (mC (.int 11))) mNil)) (mC (.int 2147483647))))
      (mRet (mBin oMod (mBin oFdiv (mBin oMod (mCB oInt (mCons (mBin oMul (mBin oIx (mVar 0) (mC (.int 1))) (mBin oIx (mVar 0) (mC (.int 1)))) mNil)) (mC (.int 2147483629))) (mC (.int 64))) (mVar 1)))))
noncomputable def gPool : MF := mFun 2 4 (mSeq (mAsg (mC (.int 0)) (gN 2))
      (mSeq (mIfS (mTst (mBin oLt (mVar 1) (mCB oLen (mCons (mVar 0) mNil)))) (mAsg (mBin oIx (mVar 0) (mVar 1)) (gN 2)) mSkip)
      (mSeq (mAsg (mBin oMod (mBin oPow (mBin oAdd (mBin oAdd (mBin oMod (mCB oInt (mCons (mVar 2) mNil)) (mC (.int 2147483629))) (mBin oMul (mBin oMul (mC (.int 7919)) (mVar 1)) (mVar 1))) (mC (.int 31))) (mC (.int 3))) (mC (.int 2147483647))) (gN 3))
      (mSeq (mIfS (mTst (mBin oLt (mVar 2) (mBin oPow (mC (.int 10)) (mC (.int 18))))) (mAsg (mC (.int 0)) (gN 2)) mSkip)
      (mRet (mLstC (mCons (mVar 2) (mCons (mVar 3) mNil))))))))
/-- a pool lies in cell k -/
def PoolAt (k : Nat) (st : Sto) : Prop := ∃ c s : Int, st[k]? = some (.lst [.d (.int c), .d (.int s)]) ∧ 0 ≤ s ∧ s < 2147483647
theorem log2_small {i : Int} {n : Nat} (h : i.natAbs < 2 ^ n) (hn : 0 < n) : i.natAbs.log2 < n := by
  by_cases z : i.natAbs = 0
  · rw [z]; simpa using hn
  · exact (Nat.log2_lt z).mpr h
theorem cdivx {i j : Int} (h0 : j ≠ 0) (h : j.natAbs < 2 ^ 64) : CDivX i j := ⟨h0, Nat.lt_trans (log2_small h (by decide)) (by decide)⟩
theorem cmulw {i j : Int} (h : i.natAbs < 2 ^ 64) (h2 : j.natAbs < 2 ^ 64) : CMulW i j := by
  have := log2_small h (by decide)
  have := log2_small h2 (by decide)
  unfold CMulW
  omega
theorem fmod_pos {i j : Int} (h : 0 < j) : 0 ≤ i.fmod j ∧ i.fmod j < j := ⟨Int.fmod_nonneg_of_pos i h, Int.fmod_lt_of_pos i h⟩
theorem set_get {st : Sto} {k : Nat} {o p : MO} (h : st[k]? = some p) : (st.set k o)[k]? = some o := by
  rw [List.getElem?_set_self (List.getElem?_eq_some_iff.mp h).1]
theorem draw_ok {k : Nat} {st : Sto} {n : Int} (P : PoolAt k st) (hn : 0 < n) (hn2 : n < 1000000) : ∃ d st1, gDraw [.ref k, .d (.int n)] st = .ok (.d (.int d)) st1 ∧ 0 ≤ d ∧ d < n ∧ PoolAt k st1 ∧ st1.length = st.length := by
  obtain ⟨c, s, h, h1, h2⟩ := P
  have i0 : atI [Va.d (.int c), .d (.int s)] 0 = some (.d (.int c)) := rfl
  have i1 : atI [Va.d (.int c), .d (.int s)] 1 = some (.d (.int s)) := rfl
  have x0 : ixN 2 0 = some 0 := rfl
  have x1 : ixN 2 1 = some 1 := rfl
  by_cases hc : 0 < c
  · refine ⟨c.fmod n, st.set k (.lst [.d (.int (c.fdiv n)), .d (.int s)]), ?_, (fmod_pos hn).1, (fmod_pos hn).2, ⟨_, _, set_get h, h1, h2⟩, by rw [List.length_set]⟩
    have a1 := fdiv_ok (i := c) st (cdivx (i := c) (j := n) (by omega) (by omega))
    have a2 := mod_ok (i := c) (j := n) st (by omega)
    unfold gDraw
    simp only [mFun_eq', mSeq_eq, mIfS, mRet, mRetN, mAsg, mPar, mExpr, mSkip, mBrk, mCnt, mBad, mRaise, outE_ok, outT_ok, outE_er, seqO_nx, seqO_rt, seqO_er, retO_rt, retO_nx, retO_er, Res.bind_ok, Res.bind_er, Res.bind_bad, mVar_0, mVar_s, mVarI_0, mVarI_s, strip_ref, strip_non, strip_bl, strip_int, strip_str, strip_lst, strip_tup, strip_obj, strip_lck, strip_idn, mC, mBin, mUn, mTst, mCB, mCons, mNil, mStar, mAnd, mOr, mAndT, mOrT, mNotT, mIf, mTru, truV, mTup, mLst, ds?, ds?_map, mCall, withD, mFld, getF_o, getF_r, oNeg, oNot, oAbs, oMax, oMin, oI1, oI2, oInt, add_ii, sub_ii, lt_ii, le_ii, gt_ii, ge_ii, eq_ii, ne_ii, gN, gT_tup, gL_lst, gsC_cons, gsN_nil, List.map_cons, List.map_nil, List.length_cons, List.length_nil, List.cons_append, List.nil_append, List.append_nil, List.replicate_zero, List.replicate_succ, List.set_cons_zero, List.set_cons_succ, List.zip_cons_cons, List.zip_nil_right, List.foldl_cons, List.foldl_nil, Option.map_some, Option.map_none, Option.bind_some, Nat.reduceAdd, Nat.reduceSub, Nat.reduceEqDiff, Nat.reduceLT, Nat.reduceLeDiff, String.reduceEq, reduceCtorEq, Int.reduceLT, Int.reduceLE, Int.reduceEq, Int.reduceAdd, Int.reduceSub, Int.reduceNeg, Int.reduceMul, String.reduceBEq, decide_true, decide_false, if_true, if_false, ite_true, ite_false, Bool.false_eq_true, Bool.not_true, Bool.not_false, Bool.true_and, Bool.false_and, Bool.and_true, Bool.and_false, Bool.true_or, Bool.false_or, Bool.or_true, Bool.or_false, mSetI, ix_ref k _ _ _ st h i0, hc, decide_true, a1, a2, h, x0]
    try rfl
  · refine ⟨((((s * 48271 + 11).fmod 2147483647 * (s * 48271 + 11).fmod 2147483647).fmod 2147483629).fdiv 64).fmod n, _, ?_, (fmod_pos hn).1, (fmod_pos hn).2, ⟨c, (s * 48271 + 11).fmod 2147483647, set_get h, (fmod_pos (by decide)).1, (fmod_pos (by decide)).2⟩, by rw [List.length_set]⟩
    have g1 := fmod_pos (i := s * 48271 + 11) (j := 2147483647) (by decide)
    have a1 := mul_ok (i := s) (j := 48271) st (cmulw (by omega) (by decide))
    have a2 := fun st => mod_ok (i := s * 48271 + 11) (j := 2147483647) st (by decide)
    have a3 := fun st => mul_ok (i := (s * 48271 + 11).fmod 2147483647) (j := (s * 48271 + 11).fmod 2147483647) st (cmulw (by omega) (by omega))
    have a4 := fun i st => mod_ok (i := i) (j := 2147483629) st (by decide)
    have a5 := fun i st => fdiv_ok (i := i) (j := 64) st (cdivx (by decide) (by decide))
    have a6 := fun i st => mod_ok (i := i) (j := n) st (by omega)
    have h' : (st.set k (.lst [.d (.int c), .d (.int ((s * 48271 + 11).fmod 2147483647))]))[k]? = some (.lst [.d (.int c), .d (.int ((s * 48271 + 11).fmod 2147483647))]) := set_get h
    have i2 : atI [Va.d (.int c), .d (.int ((s * 48271 + 11).fmod 2147483647))] 1 = some (.d (.int ((s * 48271 + 11).fmod 2147483647))) := rfl
    unfold gDraw
    simp only [mFun_eq', mSeq_eq, mIfS, mRet, mRetN, mAsg, mPar, mExpr, mSkip, mBrk, mCnt, mBad, mRaise, outE_ok, outT_ok, outE_er, seqO_nx, seqO_rt, seqO_er, retO_rt, retO_nx, retO_er, Res.bind_ok, Res.bind_er, Res.bind_bad, mVar_0, mVar_s, mVarI_0, mVarI_s, strip_ref, strip_non, strip_bl, strip_int, strip_str, strip_lst, strip_tup, strip_obj, strip_lck, strip_idn, mC, mBin, mUn, mTst, mCB, mCons, mNil, mStar, mAnd, mOr, mAndT, mOrT, mNotT, mIf, mTru, truV, mTup, mLst, ds?, ds?_map, mCall, withD, mFld, getF_o, getF_r, oNeg, oNot, oAbs, oMax, oMin, oI1, oI2, oInt, add_ii, sub_ii, lt_ii, le_ii, gt_ii, ge_ii, eq_ii, ne_ii, gN, gT_tup, gL_lst, gsC_cons, gsN_nil, List.map_cons, List.map_nil, List.length_cons, List.length_nil, List.cons_append, List.nil_append, List.append_nil, List.replicate_zero, List.replicate_succ, List.set_cons_zero, List.set_cons_succ, List.zip_cons_cons, List.zip_nil_right, List.foldl_cons, List.foldl_nil, Option.map_some, Option.map_none, Option.bind_some, Nat.reduceAdd, Nat.reduceSub, Nat.reduceEqDiff, Nat.reduceLT, Nat.reduceLeDiff, String.reduceEq, reduceCtorEq, Int.reduceLT, Int.reduceLE, Int.reduceEq, Int.reduceAdd, Int.reduceSub, Int.reduceNeg, Int.reduceMul, String.reduceBEq, decide_true, decide_false, if_true, if_false, ite_true, ite_false, Bool.false_eq_true, Bool.not_true, Bool.not_false, Bool.true_and, Bool.false_and, Bool.and_true, Bool.and_false, Bool.true_or, Bool.false_or, Bool.or_true, Bool.or_false, mSetI, ix_ref k _ _ _ st h i0, ix_ref k _ _ _ st h i1, hc, decide_false, a1, a2, h, x1, ix_ref k _ _ _ _ h' i2, a3, a4, a5, a6]
theorem pool_ok {ns : List Int} {j : Nat} {st : Sto} (hj : j < 1000) : ∃ st1, gPool [.d (.lck ns), .d (.int j)] st = .ok (.ref st.length) st1 ∧ PoolAt st.length st1 := by
  have key : ∀ c : Int, ∃ s : Int, 0 ≤ s ∧ s < 2147483647 ∧ ∀ (ρ0 ρ1 : Option Va) (st : Sto), mAsg (mBin oMod (mBin oPow (mBin oAdd (mBin oAdd (mBin oMod (mCB oInt (mCons (mVar 2) mNil)) (mC (.int 2147483629))) (mBin oMul (mBin oMul (mC (.int 7919)) (mVar 1)) (mVar 1))) (mC (.int 31))) (mC (.int 3))) (mC (.int 2147483647))) (gN 3) [ρ0, some (.d (.int j)), some (.d (.int c)), ρ1] st = .nx [ρ0, some (.d (.int j)), some (.d (.int c)), some (.d (.int s))] st := fun c => by
    have g1 := fmod_pos (i := c) (j := 2147483629) (by decide)
    have hj1 : (7919 * (j : Int)).natAbs < 2 ^ 64 := by omega
    have b1 : (7919 * (j : Int) * j) ≤ 7919 * 1000 * 1000 := by
      have : (7919 * (j : Int)) * j ≤ (7919 * 1000) * 1000 := Int.mul_le_mul (by omega) (by omega) (by omega) (by omega)
      omega
    have b2 : 0 ≤ 7919 * (j : Int) * j := Int.mul_nonneg (by omega) (by omega)
    have a1 := fun st => mod_ok (i := c) (j := 2147483629) st (by decide)
    have a2 := fun st => mul_ok (i := 7919) (j := j) st (cmulw (by decide) (by omega))
    have a3 := fun st => mul_ok (i := 7919 * j) (j := j) st (cmulw hj1 (by omega))
    have a4 : ∀ st, oPow (.d (.int (c.fmod 2147483629 + 7919 * j * j + 31))) (.d (.int 3)) st = .ok (.d (.int ((c.fmod 2147483629 + 7919 * j * j + 31) ^ 3))) st := fun st => if_pos ⟨by decide, by decide, by omega⟩
    have a5 := fun i st => mod_ok (i := i) (j := 2147483647) st (by decide)
    have g2 := fmod_pos (i := (c.fmod 2147483629 + 7919 * j * j + 31) ^ 3) (j := 2147483647) (by decide)
    refine ⟨((c.fmod 2147483629 + 7919 * j * j + 31) ^ 3).fmod 2147483647, g2.1, g2.2, fun ρ0 ρ1 st => ?_⟩
    simp only [mFun_eq', mSeq_eq, mIfS, mRet, mRetN, mAsg, mPar, mExpr, mSkip, mBrk, mCnt, mBad, mRaise, outE_ok, outT_ok, outE_er, seqO_nx, seqO_rt, seqO_er, retO_rt, retO_nx, retO_er, Res.bind_ok, Res.bind_er, Res.bind_bad, mVar_0, mVar_s, mVarI_0, mVarI_s, strip_ref, strip_non, strip_bl, strip_int, strip_str, strip_lst, strip_tup, strip_obj, strip_lck, strip_idn, mC, mBin, mUn, mTst, mCB, mCons, mNil, mStar, mAnd, mOr, mAndT, mOrT, mNotT, mIf, mTru, truV, mTup, mLst, ds?, ds?_map, mCall, withD, mFld, getF_o, getF_r, oNeg, oNot, oAbs, oMax, oMin, oI1, oI2, oInt, add_ii, sub_ii, lt_ii, le_ii, gt_ii, ge_ii, eq_ii, ne_ii, gN, gT_tup, gL_lst, gsC_cons, gsN_nil, List.map_cons, List.map_nil, List.length_cons, List.length_nil, List.cons_append, List.nil_append, List.append_nil, List.replicate_zero, List.replicate_succ, List.set_cons_zero, List.set_cons_succ, List.zip_cons_cons, List.zip_nil_right, List.foldl_cons, List.foldl_nil, Option.map_some, Option.map_none, Option.bind_some, Nat.reduceAdd, Nat.reduceSub, Nat.reduceEqDiff, Nat.reduceLT, Nat.reduceLeDiff, String.reduceEq, reduceCtorEq, Int.reduceLT, Int.reduceLE, Int.reduceEq, Int.reduceAdd, Int.reduceSub, Int.reduceNeg, Int.reduceMul, String.reduceBEq, decide_true, decide_false, if_true, if_false, ite_true, ite_false, Bool.false_eq_true, Bool.not_true, Bool.not_false, Bool.true_and, Bool.false_and, Bool.and_true, Bool.and_false, Bool.true_or, Bool.false_or, Bool.or_true, Bool.or_false, a1, a2, a3, a4, a5]
  have p18 : ∀ st, oPow (.d (.int 10)) (.d (.int 18)) st = .ok (.d (.int 1000000000000000000)) st := fun st => by
    show (if CPow 10 18 then (Res.ok (.d (.int ((10 : Int) ^ (18 : Int).toNat))) st : Res Va) else .bad) = _
    rw [if_pos ⟨by decide, by decide, by decide⟩]
    rfl
  have fin : ∀ c : Int, ∃ st1, retO (seqO (mSeq (mAsg (mBin oMod (mBin oPow (mBin oAdd (mBin oAdd (mBin oMod (mCB oInt (mCons (mVar 2) mNil)) (mC (.int 2147483629))) (mBin oMul (mBin oMul (mC (.int 7919)) (mVar 1)) (mVar 1))) (mC (.int 31))) (mC (.int 3))) (mC (.int 2147483647))) (gN 3))
      (mSeq (mIfS (mTst (mBin oLt (mVar 2) (mBin oPow (mC (.int 10)) (mC (.int 18))))) (mAsg (mC (.int 0)) (gN 2)) mSkip)
      (mRet (mLstC (mCons (mVar 2) (mCons (mVar 3) mNil))))) [some (.d (.lck ns)), some (.d (.int j)), some (.d (.int c)), none] st) mSkip) = .ok (.ref st.length) st1 ∧ PoolAt st.length st1 := fun c => by
    obtain ⟨s, s1, s2, e⟩ := key c
    rw [mSeq_eq, e, seqO_nx, mSeq_eq]
    by_cases q : c < 1000000000000000000
    · refine ⟨st ++ [.lst [.d (.int 0), .d (.int s)]], ?_, 0, s, by simp, s1, s2⟩
      simp only [mFun_eq', mSeq_eq, mIfS, mRet, mRetN, mAsg, mPar, mExpr, mSkip, mBrk, mCnt, mBad, mRaise, outE_ok, outT_ok, outE_er, seqO_nx, seqO_rt, seqO_er, retO_rt, retO_nx, retO_er, Res.bind_ok, Res.bind_er, Res.bind_bad, mVar_0, mVar_s, mVarI_0, mVarI_s, strip_ref, strip_non, strip_bl, strip_int, strip_str, strip_lst, strip_tup, strip_obj, strip_lck, strip_idn, mC, mBin, mUn, mTst, mCB, mCons, mNil, mStar, mAnd, mOr, mAndT, mOrT, mNotT, mIf, mTru, truV, mTup, mLst, ds?, ds?_map, mCall, withD, mFld, getF_o, getF_r, oNeg, oNot, oAbs, oMax, oMin, oI1, oI2, oInt, add_ii, sub_ii, lt_ii, le_ii, gt_ii, ge_ii, eq_ii, ne_ii, gN, gT_tup, gL_lst, gsC_cons, gsN_nil, List.map_cons, List.map_nil, List.length_cons, List.length_nil, List.cons_append, List.nil_append, List.append_nil, List.replicate_zero, List.replicate_succ, List.set_cons_zero, List.set_cons_succ, List.zip_cons_cons, List.zip_nil_right, List.foldl_cons, List.foldl_nil, Option.map_some, Option.map_none, Option.bind_some, Nat.reduceAdd, Nat.reduceSub, Nat.reduceEqDiff, Nat.reduceLT, Nat.reduceLeDiff, String.reduceEq, reduceCtorEq, Int.reduceLT, Int.reduceLE, Int.reduceEq, Int.reduceAdd, Int.reduceSub, Int.reduceNeg, Int.reduceMul, String.reduceBEq, decide_true, decide_false, if_true, if_false, ite_true, ite_false, Bool.false_eq_true, Bool.not_true, Bool.not_false, Bool.true_and, Bool.false_and, Bool.and_true, Bool.and_false, Bool.true_or, Bool.false_or, Bool.or_true, Bool.or_false, p18, q, decide_true, mLstC]
      rfl
    · refine ⟨st ++ [.lst [.d (.int c), .d (.int s)]], ?_, c, s, by simp, s1, s2⟩
      simp only [mFun_eq', mSeq_eq, mIfS, mRet, mRetN, mAsg, mPar, mExpr, mSkip, mBrk, mCnt, mBad, mRaise, outE_ok, outT_ok, outE_er, seqO_nx, seqO_rt, seqO_er, retO_rt, retO_nx, retO_er, Res.bind_ok, Res.bind_er, Res.bind_bad, mVar_0, mVar_s, mVarI_0, mVarI_s, strip_ref, strip_non, strip_bl, strip_int, strip_str, strip_lst, strip_tup, strip_obj, strip_lck, strip_idn, mC, mBin, mUn, mTst, mCB, mCons, mNil, mStar, mAnd, mOr, mAndT, mOrT, mNotT, mIf, mTru, truV, mTup, mLst, ds?, ds?_map, mCall, withD, mFld, getF_o, getF_r, oNeg, oNot, oAbs, oMax, oMin, oI1, oI2, oInt, add_ii, sub_ii, lt_ii, le_ii, gt_ii, ge_ii, eq_ii, ne_ii, gN, gT_tup, gL_lst, gsC_cons, gsN_nil, List.map_cons, List.map_nil, List.length_cons, List.length_nil, List.cons_append, List.nil_append, List.append_nil, List.replicate_zero, List.replicate_succ, List.set_cons_zero, List.set_cons_succ, List.zip_cons_cons, List.zip_nil_right, List.foldl_cons, List.foldl_nil, Option.map_some, Option.map_none, Option.bind_some, Nat.reduceAdd, Nat.reduceSub, Nat.reduceEqDiff, Nat.reduceLT, Nat.reduceLeDiff, String.reduceEq, reduceCtorEq, Int.reduceLT, Int.reduceLE, Int.reduceEq, Int.reduceAdd, Int.reduceSub, Int.reduceNeg, Int.reduceMul, String.reduceBEq, decide_true, decide_false, if_true, if_false, ite_true, ite_false, Bool.false_eq_true, Bool.not_true, Bool.not_false, Bool.true_and, Bool.false_and, Bool.and_true, Bool.and_false, Bool.true_or, Bool.false_or, Bool.or_true, Bool.or_false, p18, q, decide_false, mLstC]
      rfl
  have sk : ∀ o : Out, retO (seqO o mSkip) = retO o := fun o => by cases o <;> rfl
  unfold gPool
  by_cases q : j < ns.length
  · obtain ⟨st1, h1, h2⟩ := fin ns[j]
    refine ⟨st1, ?_, h2⟩
    rw [← h1, sk, mFun_eq' 2 4 _ _ _ rfl]
    have e1 : oLen [.d (.lck ns)] st = .ok (.d (.int ns.length)) st := rfl
    have e2 : decide ((j : Int) < ns.length) = true := decide_eq_true (by omega)
    have e3 : atI ns (j : Int) = some ns[j] := by
      unfold atI ixN
      rw [if_pos (by omega), if_pos (by omega)]
      show ns[((j : Int).toNat)]? = _
      rw [Int.toNat_natCast, List.getElem?_eq_getElem q]
    simp only [mFun_eq', mSeq_eq, mIfS, mRet, mRetN, mAsg, mPar, mExpr, mSkip, mBrk, mCnt, mBad, mRaise, outE_ok, outT_ok, outE_er, seqO_nx, seqO_rt, seqO_er, retO_rt, retO_nx, retO_er, Res.bind_ok, Res.bind_er, Res.bind_bad, mVar_0, mVar_s, mVarI_0, mVarI_s, strip_ref, strip_non, strip_bl, strip_int, strip_str, strip_lst, strip_tup, strip_obj, strip_lck, strip_idn, mC, mBin, mUn, mTst, mCB, mCons, mNil, mStar, mAnd, mOr, mAndT, mOrT, mNotT, mIf, mTru, truV, mTup, mLst, ds?, ds?_map, mCall, withD, mFld, getF_o, getF_r, oNeg, oNot, oAbs, oMax, oMin, oI1, oI2, oInt, add_ii, sub_ii, lt_ii, le_ii, gt_ii, ge_ii, eq_ii, ne_ii, gN, gT_tup, gL_lst, gsC_cons, gsN_nil, List.map_cons, List.map_nil, List.length_cons, List.length_nil, List.cons_append, List.nil_append, List.append_nil, List.replicate_zero, List.replicate_succ, List.set_cons_zero, List.set_cons_succ, List.zip_cons_cons, List.zip_nil_right, List.foldl_cons, List.foldl_nil, Option.map_some, Option.map_none, Option.bind_some, Nat.reduceAdd, Nat.reduceSub, Nat.reduceEqDiff, Nat.reduceLT, Nat.reduceLeDiff, String.reduceEq, reduceCtorEq, Int.reduceLT, Int.reduceLE, Int.reduceEq, Int.reduceAdd, Int.reduceSub, Int.reduceNeg, Int.reduceMul, String.reduceBEq, decide_true, decide_false, if_true, if_false, ite_true, ite_false, Bool.false_eq_true, Bool.not_true, Bool.not_false, Bool.true_and, Bool.false_and, Bool.and_true, Bool.and_false, Bool.true_or, Bool.false_or, Bool.or_true, Bool.or_false, e1, e2, ix_lck ns _ _ st e3]
  · obtain ⟨st1, h1, h2⟩ := fin 0
    refine ⟨st1, ?_, h2⟩
    rw [← h1, sk, mFun_eq' 2 4 _ _ _ rfl]
    have e1 : oLen [.d (.lck ns)] st = .ok (.d (.int ns.length)) st := rfl
    have e2 : decide ((j : Int) < ns.length) = false := decide_eq_false (by omega)
    simp only [mFun_eq', mSeq_eq, mIfS, mRet, mRetN, mAsg, mPar, mExpr, mSkip, mBrk, mCnt, mBad, mRaise, outE_ok, outT_ok, outE_er, seqO_nx, seqO_rt, seqO_er, retO_rt, retO_nx, retO_er, Res.bind_ok, Res.bind_er, Res.bind_bad, mVar_0, mVar_s, mVarI_0, mVarI_s, strip_ref, strip_non, strip_bl, strip_int, strip_str, strip_lst, strip_tup, strip_obj, strip_lck, strip_idn, mC, mBin, mUn, mTst, mCB, mCons, mNil, mStar, mAnd, mOr, mAndT, mOrT, mNotT, mIf, mTru, truV, mTup, mLst, ds?, ds?_map, mCall, withD, mFld, getF_o, getF_r, oNeg, oNot, oAbs, oMax, oMin, oI1, oI2, oInt, add_ii, sub_ii, lt_ii, le_ii, gt_ii, ge_ii, eq_ii, ne_ii, gN, gT_tup, gL_lst, gsC_cons, gsN_nil, List.map_cons, List.map_nil, List.length_cons, List.length_nil, List.cons_append, List.nil_append, List.append_nil, List.replicate_zero, List.replicate_succ, List.set_cons_zero, List.set_cons_succ, List.zip_cons_cons, List.zip_nil_right, List.foldl_cons, List.foldl_nil, Option.map_some, Option.map_none, Option.bind_some, Nat.reduceAdd, Nat.reduceSub, Nat.reduceEqDiff, Nat.reduceLT, Nat.reduceLeDiff, String.reduceEq, reduceCtorEq, Int.reduceLT, Int.reduceLE, Int.reduceEq, Int.reduceAdd, Int.reduceSub, Int.reduceNeg, Int.reduceMul, String.reduceBEq, decide_true, decide_false, if_true, if_false, ite_true, ite_false, Bool.false_eq_true, Bool.not_true, Bool.not_false, Bool.true_and, Bool.false_and, Bool.and_true, Bool.and_false, Bool.true_or, Bool.false_or, Bool.or_true, Bool.or_false, e1, e2]

/-! M15: loops over lists that are written out; is_integer, greatest_divisor, Ratio -/
def loopO (o : Out) (k : MS) : Out := match o with
  | .nx ρ st => k ρ st
  | .ct ρ st => k ρ st
  | .bk ρ st => .nx ρ st
  | o => o
theorem loopO_nx (ρ : Ev) (st : Sto) (b : MS) : loopO (.nx ρ st) b = b ρ st := rfl
theorem loopO_ct (ρ : Ev) (st : Sto) (b : MS) : loopO (.ct ρ st) b = b ρ st := rfl
theorem loopO_bk (ρ : Ev) (st : Sto) (b : MS) : loopO (.bk ρ st) b = .nx ρ st := rfl
theorem loopO_rt (v : Va) (st : Sto) (b : MS) : loopO (.rt v st) b = .rt v st := rfl
theorem loopO_er (c : String) (fs : List (String × Va)) (ρ : Ev) (st : Sto) (b : MS) : loopO (.er c fs ρ st) b = .er c fs ρ st := rfl
theorem forM_nil' (tg : MG) (b : MS) (ρ : Ev) (st : Sto) : forM none tg b [] ρ st = .nx ρ st := by
  unfold forM
  rw [if_pos (show gOk none st from trivial)]
theorem forM_cons' (tg : MG) (b : MS) (x : Va) (xs : List Va) (ρ : Ev) (st : Sto) : forM none tg b (x :: xs) ρ st = (match tg x ρ with
    | some ρ1 => loopO (b ρ1 st) (forM none tg b xs)
    | none => .bad) := by
  rw [forM]
  rw [if_pos (show gOk none st from trivial)]
  cases tg x ρ with
  | none => rfl
  | some ρ1 =>
    unfold loopO
    first
      | (simp only; done)
      | (simp only; cases b ρ1 st <;> rfl)
theorem mFor_eq {mi : MI} {tg : MG} {b : MS} {ρ : Ev} {st st0 : Sto} {l : List Va} (h : mi ρ st = .ok ⟨l, none⟩ st0) : mFor mi tg b ρ st = forM none tg b l ρ st0 := by
  unfold mFor
  rw [h]
theorem itS_tup {a : ME} {ρ : Ev} {st st1 : Sto} {xs : List D} (h : a ρ st = .ok (.d (.tup xs)) st1) : mItS a ρ st = .ok ⟨xs.map Va.d, none⟩ st1 := by
  unfold mItS
  rw [h]
  rfl
theorem itS_lst {a : ME} {ρ : Ev} {st st1 : Sto} {xs : List D} (h : a ρ st = .ok (.d (.lst xs)) st1) : mItS a ρ st = .ok ⟨xs.map Va.d, none⟩ st1 := by
  unfold mItS
  rw [h]
  rfl
theorem itR1 {m : MA} {ρ : Ev} {st st1 : Sto} {n : Nat} (h : m ρ st = .ok [.d (.int n)] st1) (hn : n ≤ 1000000000) : mItR1 m ρ st = .ok ⟨rangeV 0 n, none⟩ st1 := by
  unfold mItR1
  rw [h]
  have e : inR (n : Int) = true := by
    unfold inR
    rw [Bool.and_eq_true]
    exact ⟨decide_eq_true (by omega), decide_eq_true (by omega)⟩
  simp only [Res.bind_ok, e, if_true, Int.toNat_natCast]
theorem itZ {m : MA} {ρ : Ev} {st st1 : Sto} {a b : List D} (h : m ρ st = .ok [.d (.lst a), .d (.lst b)] st1) : mItZ m ρ st = .ok ⟨(a.zip b).map fun d => Va.d (.tup [d.1, d.2]), none⟩ st1 := by
  unfold mItZ
  rw [h]
  rfl
/-! is_integer -/
def isI : D → Bool
  | .int _ => true
  | _ => false
def okV : D → Bool
  | .non => true
  | .bl _ => true
  | .int _ => true
  | .str _ => true
  | .lst _ => true
  | .tup _ => true
  | .obj _ _ => true
  | _ => false
noncomputable def gIsInt : MF := mFun 1 1 (mRet (mAnd (mCB oIsi (mCons (mVar 0) (mCons (mC (.ty "int")) mNil))) (mUn oNot (mCB oIsi (mCons (mVar 0) (mCons (mC (.ty "bool")) mNil))))))
theorem isi_ty {x : D} {T : String} {st : Sto} {b : Bool} {g : Tag} (hg : tagOf (.d x) st = some g) (h : isi1 g (.ty T) = some b) : oIsi [.d x, .d (.ty T)] st = .ok (.d (.bl b)) st := by
  unfold oIsi
  simp only [hg, h]
theorem isi_cls {x : D} {T : String} {st : Sto} {b : Bool} {g : Tag} (hg : tagOf (.d x) st = some g) (h : isi1 g (.cls T) = some b) : oIsi [.d x, .d (.cls T)] st = .ok (.d (.bl b)) st := by
  unfold oIsi
  simp only [hg, h]
theorem isInt_ok {x : D} (hx : okV x = true) (st : Sto) : gIsInt [.d x] st = .ok (.d (.bl (isI x))) st := by
  have e1 : ∀ x' : D, ∀ n, tagOf (.d x') st = some (.ty n) → oIsi [.d x', .d (.ty "int")] st = .ok (.d (.bl (n == "int" || (n == "bool" && "int" == "int")))) st := fun x' n h => isi_ty h rfl
  have e2 : ∀ x' : D, ∀ n, tagOf (.d x') st = some (.ty n) → oIsi [.d x', .d (.ty "bool")] st = .ok (.d (.bl (n == "bool" || (n == "bool" && "bool" == "int")))) st := fun x' n h => isi_ty h rfl
  unfold gIsInt
  cases x with
  | non => simp only [mFun_eq', mSeq_eq, mIfS, mRet, mRetN, mAsg, mPar, mExpr, mSkip, mBrk, mCnt, mBad, mRaise, outE_ok, outT_ok, outE_er, seqO_nx, seqO_rt, seqO_er, retO_rt, retO_nx, retO_er, Res.bind_ok, Res.bind_er, Res.bind_bad, mVar_0, mVar_s, mVarI_0, mVarI_s, strip_ref, strip_non, strip_bl, strip_int, strip_str, strip_lst, strip_tup, strip_obj, strip_lck, strip_idn, mC, mBin, mUn, mTst, mCB, mCons, mNil, mStar, mAnd, mOr, mAndT, mOrT, mNotT, mIf, mTru, truV, mTup, mLst, ds?, ds?_map, mCall, withD, mFld, getF_o, getF_r, oNeg, oNot, oAbs, oMax, oMin, oI1, oI2, oInt, add_ii, sub_ii, lt_ii, le_ii, gt_ii, ge_ii, eq_ii, ne_ii, gN, gT_tup, gL_lst, gsC_cons, gsN_nil, List.map_cons, List.map_nil, List.length_cons, List.length_nil, List.cons_append, List.nil_append, List.append_nil, List.replicate_zero, List.replicate_succ, List.set_cons_zero, List.set_cons_succ, List.zip_cons_cons, List.zip_nil_right, List.foldl_cons, List.foldl_nil, Option.map_some, Option.map_none, Option.bind_some, Nat.reduceAdd, Nat.reduceSub, Nat.reduceEqDiff, Nat.reduceLT, Nat.reduceLeDiff, String.reduceEq, reduceCtorEq, Int.reduceLT, Int.reduceLE, Int.reduceEq, Int.reduceAdd, Int.reduceSub, Int.reduceNeg, Int.reduceMul, String.reduceBEq, decide_true, decide_false, if_true, if_false, ite_true, ite_false, Bool.false_eq_true, Bool.not_true, Bool.not_false, Bool.true_and, Bool.false_and, Bool.and_true, Bool.and_false, Bool.true_or, Bool.false_or, Bool.or_true, Bool.or_false, e1 .non _ rfl]; rfl
  | bl b => simp only [mFun_eq', mSeq_eq, mIfS, mRet, mRetN, mAsg, mPar, mExpr, mSkip, mBrk, mCnt, mBad, mRaise, outE_ok, outT_ok, outE_er, seqO_nx, seqO_rt, seqO_er, retO_rt, retO_nx, retO_er, Res.bind_ok, Res.bind_er, Res.bind_bad, mVar_0, mVar_s, mVarI_0, mVarI_s, strip_ref, strip_non, strip_bl, strip_int, strip_str, strip_lst, strip_tup, strip_obj, strip_lck, strip_idn, mC, mBin, mUn, mTst, mCB, mCons, mNil, mStar, mAnd, mOr, mAndT, mOrT, mNotT, mIf, mTru, truV, mTup, mLst, ds?, ds?_map, mCall, withD, mFld, getF_o, getF_r, oNeg, oNot, oAbs, oMax, oMin, oI1, oI2, oInt, add_ii, sub_ii, lt_ii, le_ii, gt_ii, ge_ii, eq_ii, ne_ii, gN, gT_tup, gL_lst, gsC_cons, gsN_nil, List.map_cons, List.map_nil, List.length_cons, List.length_nil, List.cons_append, List.nil_append, List.append_nil, List.replicate_zero, List.replicate_succ, List.set_cons_zero, List.set_cons_succ, List.zip_cons_cons, List.zip_nil_right, List.foldl_cons, List.foldl_nil, Option.map_some, Option.map_none, Option.bind_some, Nat.reduceAdd, Nat.reduceSub, Nat.reduceEqDiff, Nat.reduceLT, Nat.reduceLeDiff, String.reduceEq, reduceCtorEq, Int.reduceLT, Int.reduceLE, Int.reduceEq, Int.reduceAdd, Int.reduceSub, Int.reduceNeg, Int.reduceMul, String.reduceBEq, decide_true, decide_false, if_true, if_false, ite_true, ite_false, Bool.false_eq_true, Bool.not_true, Bool.not_false, Bool.true_and, Bool.false_and, Bool.and_true, Bool.and_false, Bool.true_or, Bool.false_or, Bool.or_true, Bool.or_false, e1 (.bl b) _ rfl, e2 (.bl b) _ rfl]; rfl
  | int i => simp only [mFun_eq', mSeq_eq, mIfS, mRet, mRetN, mAsg, mPar, mExpr, mSkip, mBrk, mCnt, mBad, mRaise, outE_ok, outT_ok, outE_er, seqO_nx, seqO_rt, seqO_er, retO_rt, retO_nx, retO_er, Res.bind_ok, Res.bind_er, Res.bind_bad, mVar_0, mVar_s, mVarI_0, mVarI_s, strip_ref, strip_non, strip_bl, strip_int, strip_str, strip_lst, strip_tup, strip_obj, strip_lck, strip_idn, mC, mBin, mUn, mTst, mCB, mCons, mNil, mStar, mAnd, mOr, mAndT, mOrT, mNotT, mIf, mTru, truV, mTup, mLst, ds?, ds?_map, mCall, withD, mFld, getF_o, getF_r, oNeg, oNot, oAbs, oMax, oMin, oI1, oI2, oInt, add_ii, sub_ii, lt_ii, le_ii, gt_ii, ge_ii, eq_ii, ne_ii, gN, gT_tup, gL_lst, gsC_cons, gsN_nil, List.map_cons, List.map_nil, List.length_cons, List.length_nil, List.cons_append, List.nil_append, List.append_nil, List.replicate_zero, List.replicate_succ, List.set_cons_zero, List.set_cons_succ, List.zip_cons_cons, List.zip_nil_right, List.foldl_cons, List.foldl_nil, Option.map_some, Option.map_none, Option.bind_some, Nat.reduceAdd, Nat.reduceSub, Nat.reduceEqDiff, Nat.reduceLT, Nat.reduceLeDiff, String.reduceEq, reduceCtorEq, Int.reduceLT, Int.reduceLE, Int.reduceEq, Int.reduceAdd, Int.reduceSub, Int.reduceNeg, Int.reduceMul, String.reduceBEq, decide_true, decide_false, if_true, if_false, ite_true, ite_false, Bool.false_eq_true, Bool.not_true, Bool.not_false, Bool.true_and, Bool.false_and, Bool.and_true, Bool.and_false, Bool.true_or, Bool.false_or, Bool.or_true, Bool.or_false, e1 (.int i) _ rfl, e2 (.int i) _ rfl]; rfl
  | str s => simp only [mFun_eq', mSeq_eq, mIfS, mRet, mRetN, mAsg, mPar, mExpr, mSkip, mBrk, mCnt, mBad, mRaise, outE_ok, outT_ok, outE_er, seqO_nx, seqO_rt, seqO_er, retO_rt, retO_nx, retO_er, Res.bind_ok, Res.bind_er, Res.bind_bad, mVar_0, mVar_s, mVarI_0, mVarI_s, strip_ref, strip_non, strip_bl, strip_int, strip_str, strip_lst, strip_tup, strip_obj, strip_lck, strip_idn, mC, mBin, mUn, mTst, mCB, mCons, mNil, mStar, mAnd, mOr, mAndT, mOrT, mNotT, mIf, mTru, truV, mTup, mLst, ds?, ds?_map, mCall, withD, mFld, getF_o, getF_r, oNeg, oNot, oAbs, oMax, oMin, oI1, oI2, oInt, add_ii, sub_ii, lt_ii, le_ii, gt_ii, ge_ii, eq_ii, ne_ii, gN, gT_tup, gL_lst, gsC_cons, gsN_nil, List.map_cons, List.map_nil, List.length_cons, List.length_nil, List.cons_append, List.nil_append, List.append_nil, List.replicate_zero, List.replicate_succ, List.set_cons_zero, List.set_cons_succ, List.zip_cons_cons, List.zip_nil_right, List.foldl_cons, List.foldl_nil, Option.map_some, Option.map_none, Option.bind_some, Nat.reduceAdd, Nat.reduceSub, Nat.reduceEqDiff, Nat.reduceLT, Nat.reduceLeDiff, String.reduceEq, reduceCtorEq, Int.reduceLT, Int.reduceLE, Int.reduceEq, Int.reduceAdd, Int.reduceSub, Int.reduceNeg, Int.reduceMul, String.reduceBEq, decide_true, decide_false, if_true, if_false, ite_true, ite_false, Bool.false_eq_true, Bool.not_true, Bool.not_false, Bool.true_and, Bool.false_and, Bool.and_true, Bool.and_false, Bool.true_or, Bool.false_or, Bool.or_true, Bool.or_false, e1 (.str s) _ rfl]; rfl
  | lst s => simp only [mFun_eq', mSeq_eq, mIfS, mRet, mRetN, mAsg, mPar, mExpr, mSkip, mBrk, mCnt, mBad, mRaise, outE_ok, outT_ok, outE_er, seqO_nx, seqO_rt, seqO_er, retO_rt, retO_nx, retO_er, Res.bind_ok, Res.bind_er, Res.bind_bad, mVar_0, mVar_s, mVarI_0, mVarI_s, strip_ref, strip_non, strip_bl, strip_int, strip_str, strip_lst, strip_tup, strip_obj, strip_lck, strip_idn, mC, mBin, mUn, mTst, mCB, mCons, mNil, mStar, mAnd, mOr, mAndT, mOrT, mNotT, mIf, mTru, truV, mTup, mLst, ds?, ds?_map, mCall, withD, mFld, getF_o, getF_r, oNeg, oNot, oAbs, oMax, oMin, oI1, oI2, oInt, add_ii, sub_ii, lt_ii, le_ii, gt_ii, ge_ii, eq_ii, ne_ii, gN, gT_tup, gL_lst, gsC_cons, gsN_nil, List.map_cons, List.map_nil, List.length_cons, List.length_nil, List.cons_append, List.nil_append, List.append_nil, List.replicate_zero, List.replicate_succ, List.set_cons_zero, List.set_cons_succ, List.zip_cons_cons, List.zip_nil_right, List.foldl_cons, List.foldl_nil, Option.map_some, Option.map_none, Option.bind_some, Nat.reduceAdd, Nat.reduceSub, Nat.reduceEqDiff, Nat.reduceLT, Nat.reduceLeDiff, String.reduceEq, reduceCtorEq, Int.reduceLT, Int.reduceLE, Int.reduceEq, Int.reduceAdd, Int.reduceSub, Int.reduceNeg, Int.reduceMul, String.reduceBEq, decide_true, decide_false, if_true, if_false, ite_true, ite_false, Bool.false_eq_true, Bool.not_true, Bool.not_false, Bool.true_and, Bool.false_and, Bool.and_true, Bool.and_false, Bool.true_or, Bool.false_or, Bool.or_true, Bool.or_false, e1 (.lst s) _ rfl]; rfl
  | tup s => simp only [mFun_eq', mSeq_eq, mIfS, mRet, mRetN, mAsg, mPar, mExpr, mSkip, mBrk, mCnt, mBad, mRaise, outE_ok, outT_ok, outE_er, seqO_nx, seqO_rt, seqO_er, retO_rt, retO_nx, retO_er, Res.bind_ok, Res.bind_er, Res.bind_bad, mVar_0, mVar_s, mVarI_0, mVarI_s, strip_ref, strip_non, strip_bl, strip_int, strip_str, strip_lst, strip_tup, strip_obj, strip_lck, strip_idn, mC, mBin, mUn, mTst, mCB, mCons, mNil, mStar, mAnd, mOr, mAndT, mOrT, mNotT, mIf, mTru, truV, mTup, mLst, ds?, ds?_map, mCall, withD, mFld, getF_o, getF_r, oNeg, oNot, oAbs, oMax, oMin, oI1, oI2, oInt, add_ii, sub_ii, lt_ii, le_ii, gt_ii, ge_ii, eq_ii, ne_ii, gN, gT_tup, gL_lst, gsC_cons, gsN_nil, List.map_cons, List.map_nil, List.length_cons, List.length_nil, List.cons_append, List.nil_append, List.append_nil, List.replicate_zero, List.replicate_succ, List.set_cons_zero, List.set_cons_succ, List.zip_cons_cons, List.zip_nil_right, List.foldl_cons, List.foldl_nil, Option.map_some, Option.map_none, Option.bind_some, Nat.reduceAdd, Nat.reduceSub, Nat.reduceEqDiff, Nat.reduceLT, Nat.reduceLeDiff, String.reduceEq, reduceCtorEq, Int.reduceLT, Int.reduceLE, Int.reduceEq, Int.reduceAdd, Int.reduceSub, Int.reduceNeg, Int.reduceMul, String.reduceBEq, decide_true, decide_false, if_true, if_false, ite_true, ite_false, Bool.false_eq_true, Bool.not_true, Bool.not_false, Bool.true_and, Bool.false_and, Bool.and_true, Bool.and_false, Bool.true_or, Bool.false_or, Bool.or_true, Bool.or_false, e1 (.tup s) _ rfl]; rfl
  | obj c fs =>
    have e3 : oIsi [.d (.obj c fs), .d (.ty "int")] st = .ok (.d (.bl false)) st := isi_ty (g := .cl c) rfl rfl
    simp only [mFun_eq', mSeq_eq, mIfS, mRet, mRetN, mAsg, mPar, mExpr, mSkip, mBrk, mCnt, mBad, mRaise, outE_ok, outT_ok, outE_er, seqO_nx, seqO_rt, seqO_er, retO_rt, retO_nx, retO_er, Res.bind_ok, Res.bind_er, Res.bind_bad, mVar_0, mVar_s, mVarI_0, mVarI_s, strip_ref, strip_non, strip_bl, strip_int, strip_str, strip_lst, strip_tup, strip_obj, strip_lck, strip_idn, mC, mBin, mUn, mTst, mCB, mCons, mNil, mStar, mAnd, mOr, mAndT, mOrT, mNotT, mIf, mTru, truV, mTup, mLst, ds?, ds?_map, mCall, withD, mFld, getF_o, getF_r, oNeg, oNot, oAbs, oMax, oMin, oI1, oI2, oInt, add_ii, sub_ii, lt_ii, le_ii, gt_ii, ge_ii, eq_ii, ne_ii, gN, gT_tup, gL_lst, gsC_cons, gsN_nil, List.map_cons, List.map_nil, List.length_cons, List.length_nil, List.cons_append, List.nil_append, List.append_nil, List.replicate_zero, List.replicate_succ, List.set_cons_zero, List.set_cons_succ, List.zip_cons_cons, List.zip_nil_right, List.foldl_cons, List.foldl_nil, Option.map_some, Option.map_none, Option.bind_some, Nat.reduceAdd, Nat.reduceSub, Nat.reduceEqDiff, Nat.reduceLT, Nat.reduceLeDiff, String.reduceEq, reduceCtorEq, Int.reduceLT, Int.reduceLE, Int.reduceEq, Int.reduceAdd, Int.reduceSub, Int.reduceNeg, Int.reduceMul, String.reduceBEq, decide_true, decide_false, if_true, if_false, ite_true, ite_false, Bool.false_eq_true, Bool.not_true, Bool.not_false, Bool.true_and, Bool.false_and, Bool.and_true, Bool.and_false, Bool.true_or, Bool.false_or, Bool.or_true, Bool.or_false, e3]
    rfl
  | _ => cases hx
theorem pIsInt {x : D} (hx : okV x = true) (st : Sto) : pureF gIsInt [.d x] st = .ok (.d (.bl (isI x))) st := pureF_d rfl (isInt_ok hx [])
/-! greatest_divisor -/
noncomputable def gGcd : MF := mFun 2 2 (mSeq (mPar [0, 1] (mCons (mCB oAbs (mCons (mVar 0) mNil)) (mCons (mCB oAbs (mCons (mVar 1) mNil)) mNil)))
      (mSeq (mWhile (mTst (mBin oGt (mVar 1) (mC (.int 0))))
      (mPar [0, 1] (mCons (mVar 1) (mCons (mBin oMod (mVar 0) (mVar 1)) mNil))))
      (mRet (mVar 0))))
theorem gcd_ok (a b : Int) (st : Sto) : gGcd [.d (.int a), .d (.int b)] st = .ok (.d (.int (Int.gcd a b))) st := by
  have ab : ∀ i : Int, (if i < 0 then -i else i) = (i.natAbs : Int) := fun i => by split <;> omega
  have w : ∃ ρ1 st1, mWhile (mTst (mBin oGt (mVar 1) (mC (.int 0)))) (mPar [0, 1] (mCons (mVar 1) (mCons (mBin oMod (mVar 0) (mVar 1)) mNil))) [some (.d (.int a.natAbs)), some (.d (.int b.natAbs))] st = .nx ρ1 st1 ∧ (st1 = st ∧ ρ1 = [some (.d (.int (Int.gcd a b))), some (.d (.int 0))]) := by
    refine mWhile_inv (I := fun n ρ st1 => st1 = st ∧ ∃ x : Nat, ρ = [some (.d (.int x)), some (.d (.int n))] ∧ Nat.gcd x n = Int.gcd a b) (Q := fun ρ1 st1 => st1 = st ∧ ρ1 = [some (.d (.int (Int.gcd a b))), some (.d (.int 0))]) ?_ (n := b.natAbs) ⟨rfl, a.natAbs, rfl, rfl⟩
    rintro n ρ st1 ⟨rfl, x, rfl, e⟩
    by_cases q : n = 0
    · subst q
      left
      refine ⟨by simp only [mFun_eq', mSeq_eq, mIfS, mRet, mRetN, mAsg, mPar, mExpr, mSkip, mBrk, mCnt, mBad, mRaise, outE_ok, outT_ok, outE_er, seqO_nx, seqO_rt, seqO_er, retO_rt, retO_nx, retO_er, Res.bind_ok, Res.bind_er, Res.bind_bad, mVar_0, mVar_s, mVarI_0, mVarI_s, strip_ref, strip_non, strip_bl, strip_int, strip_str, strip_lst, strip_tup, strip_obj, strip_lck, strip_idn, mC, mBin, mUn, mTst, mCB, mCons, mNil, mStar, mAnd, mOr, mAndT, mOrT, mNotT, mIf, mTru, truV, mTup, mLst, ds?, ds?_map, mCall, withD, mFld, getF_o, getF_r, oNeg, oNot, oAbs, oMax, oMin, oI1, oI2, oInt, add_ii, sub_ii, lt_ii, le_ii, gt_ii, ge_ii, eq_ii, ne_ii, gN, gT_tup, gL_lst, gsC_cons, gsN_nil, List.map_cons, List.map_nil, List.length_cons, List.length_nil, List.cons_append, List.nil_append, List.append_nil, List.replicate_zero, List.replicate_succ, List.set_cons_zero, List.set_cons_succ, List.zip_cons_cons, List.zip_nil_right, List.foldl_cons, List.foldl_nil, Option.map_some, Option.map_none, Option.bind_some, Nat.reduceAdd, Nat.reduceSub, Nat.reduceEqDiff, Nat.reduceLT, Nat.reduceLeDiff, String.reduceEq, reduceCtorEq, Int.reduceLT, Int.reduceLE, Int.reduceEq, Int.reduceAdd, Int.reduceSub, Int.reduceNeg, Int.reduceMul, String.reduceBEq, decide_true, decide_false, if_true, if_false, ite_true, ite_false, Bool.false_eq_true, Bool.not_true, Bool.not_false, Bool.true_and, Bool.false_and, Bool.and_true, Bool.and_false, Bool.true_or, Bool.false_or, Bool.or_true, Bool.or_false]; rfl, rfl, ?_⟩
      rw [← e, Nat.gcd_zero_right]
      rfl
    · right
      have a1 := mod_ok (i := x) (j := n) st1 (by omega)
      have q2 : decide ((0 : Int) < n) = true := decide_eq_true (by omega)
      refine ⟨st1, [some (.d (.int n)), some (.d (.int ((x % n : Nat) : Int)))], st1, x % n, by simp only [mFun_eq', mSeq_eq, mIfS, mRet, mRetN, mAsg, mPar, mExpr, mSkip, mBrk, mCnt, mBad, mRaise, outE_ok, outT_ok, outE_er, seqO_nx, seqO_rt, seqO_er, retO_rt, retO_nx, retO_er, Res.bind_ok, Res.bind_er, Res.bind_bad, mVar_0, mVar_s, mVarI_0, mVarI_s, strip_ref, strip_non, strip_bl, strip_int, strip_str, strip_lst, strip_tup, strip_obj, strip_lck, strip_idn, mC, mBin, mUn, mTst, mCB, mCons, mNil, mStar, mAnd, mOr, mAndT, mOrT, mNotT, mIf, mTru, truV, mTup, mLst, ds?, ds?_map, mCall, withD, mFld, getF_o, getF_r, oNeg, oNot, oAbs, oMax, oMin, oI1, oI2, oInt, add_ii, sub_ii, lt_ii, le_ii, gt_ii, ge_ii, eq_ii, ne_ii, gN, gT_tup, gL_lst, gsC_cons, gsN_nil, List.map_cons, List.map_nil, List.length_cons, List.length_nil, List.cons_append, List.nil_append, List.append_nil, List.replicate_zero, List.replicate_succ, List.set_cons_zero, List.set_cons_succ, List.zip_cons_cons, List.zip_nil_right, List.foldl_cons, List.foldl_nil, Option.map_some, Option.map_none, Option.bind_some, Nat.reduceAdd, Nat.reduceSub, Nat.reduceEqDiff, Nat.reduceLT, Nat.reduceLeDiff, String.reduceEq, reduceCtorEq, Int.reduceLT, Int.reduceLE, Int.reduceEq, Int.reduceAdd, Int.reduceSub, Int.reduceNeg, Int.reduceMul, String.reduceBEq, decide_true, decide_false, if_true, if_false, ite_true, ite_false, Bool.false_eq_true, Bool.not_true, Bool.not_false, Bool.true_and, Bool.false_and, Bool.and_true, Bool.and_false, Bool.true_or, Bool.false_or, Bool.or_true, Bool.or_false, q2], ?_, Nat.mod_lt _ (by omega), rfl, n, rfl, ?_⟩
      · simp only [mFun_eq', mSeq_eq, mIfS, mRet, mRetN, mAsg, mPar, mExpr, mSkip, mBrk, mCnt, mBad, mRaise, outE_ok, outT_ok, outE_er, seqO_nx, seqO_rt, seqO_er, retO_rt, retO_nx, retO_er, Res.bind_ok, Res.bind_er, Res.bind_bad, mVar_0, mVar_s, mVarI_0, mVarI_s, strip_ref, strip_non, strip_bl, strip_int, strip_str, strip_lst, strip_tup, strip_obj, strip_lck, strip_idn, mC, mBin, mUn, mTst, mCB, mCons, mNil, mStar, mAnd, mOr, mAndT, mOrT, mNotT, mIf, mTru, truV, mTup, mLst, ds?, ds?_map, mCall, withD, mFld, getF_o, getF_r, oNeg, oNot, oAbs, oMax, oMin, oI1, oI2, oInt, add_ii, sub_ii, lt_ii, le_ii, gt_ii, ge_ii, eq_ii, ne_ii, gN, gT_tup, gL_lst, gsC_cons, gsN_nil, List.map_cons, List.map_nil, List.length_cons, List.length_nil, List.cons_append, List.nil_append, List.append_nil, List.replicate_zero, List.replicate_succ, List.set_cons_zero, List.set_cons_succ, List.zip_cons_cons, List.zip_nil_right, List.foldl_cons, List.foldl_nil, Option.map_some, Option.map_none, Option.bind_some, Nat.reduceAdd, Nat.reduceSub, Nat.reduceEqDiff, Nat.reduceLT, Nat.reduceLeDiff, String.reduceEq, reduceCtorEq, Int.reduceLT, Int.reduceLE, Int.reduceEq, Int.reduceAdd, Int.reduceSub, Int.reduceNeg, Int.reduceMul, String.reduceBEq, decide_true, decide_false, if_true, if_false, ite_true, ite_false, Bool.false_eq_true, Bool.not_true, Bool.not_false, Bool.true_and, Bool.false_and, Bool.and_true, Bool.and_false, Bool.true_or, Bool.false_or, Bool.or_true, Bool.or_false, a1]
        rw [Int.fmod_eq_emod_of_nonneg _ (by omega)]
        rfl
      · rw [← e, Nat.gcd_comm x n, Nat.gcd_rec n x]
        exact Nat.gcd_comm _ _
  obtain ⟨ρ1, st1, h1, rfl, rfl⟩ := w
  unfold gGcd
  simp only [mFun_eq', mSeq_eq, mIfS, mRet, mRetN, mAsg, mPar, mExpr, mSkip, mBrk, mCnt, mBad, mRaise, outE_ok, outT_ok, outE_er, seqO_nx, seqO_rt, seqO_er, retO_rt, retO_nx, retO_er, Res.bind_ok, Res.bind_er, Res.bind_bad, mVar_0, mVar_s, mVarI_0, mVarI_s, strip_ref, strip_non, strip_bl, strip_int, strip_str, strip_lst, strip_tup, strip_obj, strip_lck, strip_idn, mC, mBin, mUn, mTst, mCB, mCons, mNil, mStar, mAnd, mOr, mAndT, mOrT, mNotT, mIf, mTru, truV, mTup, mLst, ds?, ds?_map, mCall, withD, mFld, getF_o, getF_r, oNeg, oNot, oAbs, oMax, oMin, oI1, oI2, oInt, add_ii, sub_ii, lt_ii, le_ii, gt_ii, ge_ii, eq_ii, ne_ii, gN, gT_tup, gL_lst, gsC_cons, gsN_nil, List.map_cons, List.map_nil, List.length_cons, List.length_nil, List.cons_append, List.nil_append, List.append_nil, List.replicate_zero, List.replicate_succ, List.set_cons_zero, List.set_cons_succ, List.zip_cons_cons, List.zip_nil_right, List.foldl_cons, List.foldl_nil, Option.map_some, Option.map_none, Option.bind_some, Nat.reduceAdd, Nat.reduceSub, Nat.reduceEqDiff, Nat.reduceLT, Nat.reduceLeDiff, String.reduceEq, reduceCtorEq, Int.reduceLT, Int.reduceLE, Int.reduceEq, Int.reduceAdd, Int.reduceSub, Int.reduceNeg, Int.reduceMul, String.reduceBEq, decide_true, decide_false, if_true, if_false, ite_true, ite_false, Bool.false_eq_true, Bool.not_true, Bool.not_false, Bool.true_and, Bool.false_and, Bool.and_true, Bool.and_false, Bool.true_or, Bool.false_or, Bool.or_true, Bool.or_false, ab, h1]
theorem pGcd (a b : Int) (st : Sto) : pureF gGcd [.d (.int a), .d (.int b)] st = .ok (.d (.int (Int.gcd a b))) st := pureF_d rfl (gcd_ok a b [])
/-! Ratio(top, bottom) -/
noncomputable def gRatio : MF := mFun 3 5 (mSeq (mFor (mItS (mTup (mCons (mVar 1) (mCons (mVar 2) mNil)))) (gN 3)
      (mIfS (mNotT (mTru (mCall (withD [] (pureF gIsInt)) (mCons (mVar 3) mNil)))) (mRaise "InvalidRatio" ["value"] (mCons (mVar 3) mNil)) mSkip))
      (mSeq (mIfS (mTst (mBin oEq (mVar 2) (mC (.int 0)))) mBad mSkip)
      (mSeq (mAsg (mCall (withD [] (pureF gGcd)) (mCons (mVar 1) (mCons (mVar 2) mNil))) (gN 4))
      (mSeq (mIfS (mTst (mBin oLt (mVar 2) (mC (.int 0)))) (mAsg (mUn oNeg (mVar 4)) (gN 4)) mSkip)
      (mSeq (mSetF "own_top" (mVar 0) (mBin oFdiv (mVar 1) (mVar 4)))
      (mSetF "own_bottom" (mVar 0) (mBin oFdiv (mVar 2) (mVar 4))))))))
/-- what both parts are divided by -/
def sgd (t b : Int) : Int := if b < 0 then -(Int.gcd t b : Int) else Int.gcd t b
def ratD (p q : Int) : D := .obj "Ratio" [("own_top", .int p), ("own_bottom", .int q)]
theorem ratio_init {t b : Int} (hb : b ≠ 0) (hd : (Int.gcd t b).log2 < 9000) : gRatio [.ref 0, .d (.int t), .d (.int b)] [.obj "Ratio" []] = .ok (.d .non) [.obj "Ratio" [("own_top", .d (.int (t.fdiv (sgd t b)))), ("own_bottom", .d (.int (b.fdiv (sgd t b))))]] := by
  have g0 : Int.gcd t b ≠ 0 := fun z => hb (Int.gcd_eq_zero_iff.mp z).2
  have hs : sgd t b ≠ 0 ∧ (sgd t b).natAbs = Int.gcd t b := by unfold sgd; split <;> omega
  have cd : ∀ i, CDivX i (sgd t b) := fun i => ⟨hs.1, by rw [hs.2]; exact hd⟩
  have a1 := fun st => fdiv_ok (i := t) st (cd t)
  have a2 := fun st => fdiv_ok (i := b) st (cd b)
  have p1 := fun st => pIsInt (x := .int t) rfl st
  have p2 := fun st => pIsInt (x := .int b) rfl st
  have f1 : mFor (mItS (mTup (mCons (mVar 1) (mCons (mVar 2) mNil)))) (gN 3)
      (mIfS (mNotT (mTru (mCall (withD [] (pureF gIsInt)) (mCons (mVar 3) mNil)))) (mRaise "InvalidRatio" ["value"] (mCons (mVar 3) mNil)) mSkip) [some (.ref 0), some (.d (.int t)), some (.d (.int b)), none, none] [.obj "Ratio" []] = .nx [some (.ref 0), some (.d (.int t)), some (.d (.int b)), some (.d (.int b)), none] [.obj "Ratio" []] := by
    rw [mFor_eq (itS_tup (xs := [.int t, .int b]) (by simp only [mFun_eq', mSeq_eq, mIfS, mRet, mRetN, mAsg, mPar, mExpr, mSkip, mBrk, mCnt, mBad, mRaise, outE_ok, outT_ok, outE_er, seqO_nx, seqO_rt, seqO_er, retO_rt, retO_nx, retO_er, Res.bind_ok, Res.bind_er, Res.bind_bad, mVar_0, mVar_s, mVarI_0, mVarI_s, strip_ref, strip_non, strip_bl, strip_int, strip_str, strip_lst, strip_tup, strip_obj, strip_lck, strip_idn, mC, mBin, mUn, mTst, mCB, mCons, mNil, mStar, mAnd, mOr, mAndT, mOrT, mNotT, mIf, mTru, truV, mTup, mLst, ds?, ds?_map, mCall, withD, mFld, getF_o, getF_r, oNeg, oNot, oAbs, oMax, oMin, oI1, oI2, oInt, add_ii, sub_ii, lt_ii, le_ii, gt_ii, ge_ii, eq_ii, ne_ii, gN, gT_tup, gL_lst, gsC_cons, gsN_nil, List.map_cons, List.map_nil, List.length_cons, List.length_nil, List.cons_append, List.nil_append, List.append_nil, List.replicate_zero, List.replicate_succ, List.set_cons_zero, List.set_cons_succ, List.zip_cons_cons, List.zip_nil_right, List.foldl_cons, List.foldl_nil, Option.map_some, Option.map_none, Option.bind_some, Nat.reduceAdd, Nat.reduceSub, Nat.reduceEqDiff, Nat.reduceLT, Nat.reduceLeDiff, String.reduceEq, reduceCtorEq, Int.reduceLT, Int.reduceLE, Int.reduceEq, Int.reduceAdd, Int.reduceSub, Int.reduceNeg, Int.reduceMul, String.reduceBEq, decide_true, decide_false, if_true, if_false, ite_true, ite_false, Bool.false_eq_true, Bool.not_true, Bool.not_false, Bool.true_and, Bool.false_and, Bool.and_true, Bool.and_false, Bool.true_or, Bool.false_or, Bool.or_true, Bool.or_false]; rfl))]
    simp only [mFun_eq', mSeq_eq, mIfS, mRet, mRetN, mAsg, mPar, mExpr, mSkip, mBrk, mCnt, mBad, mRaise, outE_ok, outT_ok, outE_er, seqO_nx, seqO_rt, seqO_er, retO_rt, retO_nx, retO_er, Res.bind_ok, Res.bind_er, Res.bind_bad, mVar_0, mVar_s, mVarI_0, mVarI_s, strip_ref, strip_non, strip_bl, strip_int, strip_str, strip_lst, strip_tup, strip_obj, strip_lck, strip_idn, mC, mBin, mUn, mTst, mCB, mCons, mNil, mStar, mAnd, mOr, mAndT, mOrT, mNotT, mIf, mTru, truV, mTup, mLst, ds?, ds?_map, mCall, withD, mFld, getF_o, getF_r, oNeg, oNot, oAbs, oMax, oMin, oI1, oI2, oInt, add_ii, sub_ii, lt_ii, le_ii, gt_ii, ge_ii, eq_ii, ne_ii, gN, gT_tup, gL_lst, gsC_cons, gsN_nil, List.map_cons, List.map_nil, List.length_cons, List.length_nil, List.cons_append, List.nil_append, List.append_nil, List.replicate_zero, List.replicate_succ, List.set_cons_zero, List.set_cons_succ, List.zip_cons_cons, List.zip_nil_right, List.foldl_cons, List.foldl_nil, Option.map_some, Option.map_none, Option.bind_some, Nat.reduceAdd, Nat.reduceSub, Nat.reduceEqDiff, Nat.reduceLT, Nat.reduceLeDiff, String.reduceEq, reduceCtorEq, Int.reduceLT, Int.reduceLE, Int.reduceEq, Int.reduceAdd, Int.reduceSub, Int.reduceNeg, Int.reduceMul, String.reduceBEq, decide_true, decide_false, if_true, if_false, ite_true, ite_false, Bool.false_eq_true, Bool.not_true, Bool.not_false, Bool.true_and, Bool.false_and, Bool.and_true, Bool.and_false, Bool.true_or, Bool.false_or, Bool.or_true, Bool.or_false, forM_cons', forM_nil', loopO_nx, p1, p2, isI]
  have q0 : decide (b = 0) = false := decide_eq_false hb
  unfold gRatio
  by_cases q : b < 0
  · have es : sgd t b = -(Int.gcd t b : Int) := if_pos q
    rw [es] at a1 a2
    simp only [mFun_eq', mSeq_eq, mIfS, mRet, mRetN, mAsg, mPar, mExpr, mSkip, mBrk, mCnt, mBad, mRaise, outE_ok, outT_ok, outE_er, seqO_nx, seqO_rt, seqO_er, retO_rt, retO_nx, retO_er, Res.bind_ok, Res.bind_er, Res.bind_bad, mVar_0, mVar_s, mVarI_0, mVarI_s, strip_ref, strip_non, strip_bl, strip_int, strip_str, strip_lst, strip_tup, strip_obj, strip_lck, strip_idn, mC, mBin, mUn, mTst, mCB, mCons, mNil, mStar, mAnd, mOr, mAndT, mOrT, mNotT, mIf, mTru, truV, mTup, mLst, ds?, ds?_map, mCall, withD, mFld, getF_o, getF_r, oNeg, oNot, oAbs, oMax, oMin, oI1, oI2, oInt, add_ii, sub_ii, lt_ii, le_ii, gt_ii, ge_ii, eq_ii, ne_ii, gN, gT_tup, gL_lst, gsC_cons, gsN_nil, List.map_cons, List.map_nil, List.length_cons, List.length_nil, List.cons_append, List.nil_append, List.append_nil, List.replicate_zero, List.replicate_succ, List.set_cons_zero, List.set_cons_succ, List.zip_cons_cons, List.zip_nil_right, List.foldl_cons, List.foldl_nil, Option.map_some, Option.map_none, Option.bind_some, Nat.reduceAdd, Nat.reduceSub, Nat.reduceEqDiff, Nat.reduceLT, Nat.reduceLeDiff, String.reduceEq, reduceCtorEq, Int.reduceLT, Int.reduceLE, Int.reduceEq, Int.reduceAdd, Int.reduceSub, Int.reduceNeg, Int.reduceMul, String.reduceBEq, decide_true, decide_false, if_true, if_false, ite_true, ite_false, Bool.false_eq_true, Bool.not_true, Bool.not_false, Bool.true_and, Bool.false_and, Bool.and_true, Bool.and_false, Bool.true_or, Bool.false_or, Bool.or_true, Bool.or_false, f1, q0, pGcd, q, decide_true, mSetF, a1, a2, es, List.getElem?_cons_zero, putS]
  · have es : sgd t b = (Int.gcd t b : Int) := if_neg q
    rw [es] at a1 a2
    simp only [mFun_eq', mSeq_eq, mIfS, mRet, mRetN, mAsg, mPar, mExpr, mSkip, mBrk, mCnt, mBad, mRaise, outE_ok, outT_ok, outE_er, seqO_nx, seqO_rt, seqO_er, retO_rt, retO_nx, retO_er, Res.bind_ok, Res.bind_er, Res.bind_bad, mVar_0, mVar_s, mVarI_0, mVarI_s, strip_ref, strip_non, strip_bl, strip_int, strip_str, strip_lst, strip_tup, strip_obj, strip_lck, strip_idn, mC, mBin, mUn, mTst, mCB, mCons, mNil, mStar, mAnd, mOr, mAndT, mOrT, mNotT, mIf, mTru, truV, mTup, mLst, ds?, ds?_map, mCall, withD, mFld, getF_o, getF_r, oNeg, oNot, oAbs, oMax, oMin, oI1, oI2, oInt, add_ii, sub_ii, lt_ii, le_ii, gt_ii, ge_ii, eq_ii, ne_ii, gN, gT_tup, gL_lst, gsC_cons, gsN_nil, List.map_cons, List.map_nil, List.length_cons, List.length_nil, List.cons_append, List.nil_append, List.append_nil, List.replicate_zero, List.replicate_succ, List.set_cons_zero, List.set_cons_succ, List.zip_cons_cons, List.zip_nil_right, List.foldl_cons, List.foldl_nil, Option.map_some, Option.map_none, Option.bind_some, Nat.reduceAdd, Nat.reduceSub, Nat.reduceEqDiff, Nat.reduceLT, Nat.reduceLeDiff, String.reduceEq, reduceCtorEq, Int.reduceLT, Int.reduceLE, Int.reduceEq, Int.reduceAdd, Int.reduceSub, Int.reduceNeg, Int.reduceMul, String.reduceBEq, decide_true, decide_false, if_true, if_false, ite_true, ite_false, Bool.false_eq_true, Bool.not_true, Bool.not_false, Bool.true_and, Bool.false_and, Bool.and_true, Bool.and_false, Bool.true_or, Bool.false_or, Bool.or_true, Bool.or_false, f1, q0, pGcd, q, decide_false, mSetF, a1, a2, es, List.getElem?_cons_zero, putS]
theorem ratio_ok {t b : Int} (st : Sto) (hb : b ≠ 0) (hd : (Int.gcd t b).log2 < 9000) : makeP "Ratio" (withD [] gRatio) [.d (.int t), .d (.int b)] st = .ok (.d (ratD (t.fdiv (sgd t b)) (b.fdiv (sgd t b)))) st := by
  have h := ratio_init (t := t) (b := b) hb hd
  unfold makeP
  simp only [mFun_eq', mSeq_eq, mIfS, mRet, mRetN, mAsg, mPar, mExpr, mSkip, mBrk, mCnt, mBad, mRaise, outE_ok, outT_ok, outE_er, seqO_nx, seqO_rt, seqO_er, retO_rt, retO_nx, retO_er, Res.bind_ok, Res.bind_er, Res.bind_bad, mVar_0, mVar_s, mVarI_0, mVarI_s, strip_ref, strip_non, strip_bl, strip_int, strip_str, strip_lst, strip_tup, strip_obj, strip_lck, strip_idn, mC, mBin, mUn, mTst, mCB, mCons, mNil, mStar, mAnd, mOr, mAndT, mOrT, mNotT, mIf, mTru, truV, mTup, mLst, ds?, ds?_map, mCall, withD, mFld, getF_o, getF_r, oNeg, oNot, oAbs, oMax, oMin, oI1, oI2, oInt, add_ii, sub_ii, lt_ii, le_ii, gt_ii, ge_ii, eq_ii, ne_ii, gN, gT_tup, gL_lst, gsC_cons, gsN_nil, List.map_cons, List.map_nil, List.length_cons, List.length_nil, List.cons_append, List.nil_append, List.append_nil, List.replicate_zero, List.replicate_succ, List.set_cons_zero, List.set_cons_succ, List.zip_cons_cons, List.zip_nil_right, List.foldl_cons, List.foldl_nil, Option.map_some, Option.map_none, Option.bind_some, Nat.reduceAdd, Nat.reduceSub, Nat.reduceEqDiff, Nat.reduceLT, Nat.reduceLeDiff, String.reduceEq, reduceCtorEq, Int.reduceLT, Int.reduceLE, Int.reduceEq, Int.reduceAdd, Int.reduceSub, Int.reduceNeg, Int.reduceMul, String.reduceBEq, decide_true, decide_false, if_true, if_false, ite_true, ite_false, Bool.false_eq_true, Bool.not_true, Bool.not_false, Bool.true_and, Bool.false_and, Bool.and_true, Bool.and_false, Bool.true_or, Bool.false_or, Bool.or_true, Bool.or_false, h]
  rfl
/-- the fraction is kept, its bottom is above 0 and divides the first one -/
theorem sgd_spec {t b : Int} (hb : b ≠ 0) : t.fdiv (sgd t b) * b = t * b.fdiv (sgd t b) ∧ 0 < b.fdiv (sgd t b) ∧ sgd t b * b.fdiv (sgd t b) = b ∧ sgd t b * t.fdiv (sgd t b) = t ∧ Int.gcd (t.fdiv (sgd t b)) (b.fdiv (sgd t b)) = 1 := by
  have g0 : Int.gcd t b ≠ 0 := fun z => hb (Int.gcd_eq_zero_iff.mp z).2
  obtain ⟨p, hp⟩ := Int.gcd_dvd_left t b
  obtain ⟨r, hr⟩ := Int.gcd_dvd_right t b
  have g1 : (0 : Int) < Int.gcd t b := by omega
  have hg : Int.gcd p r = 1 := by
    have e : Int.gcd t b = Int.gcd (Int.gcd t b * p) (Int.gcd t b * r) := by rw [← hp, ← hr]
    rw [Int.gcd_mul_left] at e
    simp only [Int.natAbs_natCast] at e
    exact Nat.eq_of_mul_eq_mul_left (by omega : 0 < Int.gcd t b) (by omega)
  have key : ∀ g t p : Int, g ≠ 0 → t = g * p → t.fdiv g = p := fun g t p h e => by
    rw [e]
    exact Int.mul_fdiv_cancel_left _ h
  by_cases q : b < 0
  · have es : sgd t b = -(Int.gcd t b : Int) := if_pos q
    have e1 : t.fdiv (sgd t b) = -p := key _ _ _ (by omega) (by rw [es]; grind)
    have e2 : b.fdiv (sgd t b) = -r := key _ _ _ (by omega) (by rw [es]; grind)
    rw [e1, e2, es]
    refine ⟨by grind, ?_, by grind, by grind, by rw [Int.gcd_neg, Int.neg_gcd]; exact hg⟩
    have : r < 0 := Int.not_le.mp fun z => by
      have := Int.mul_nonneg (Int.le_of_lt g1) z
      omega
    omega
  · have es : sgd t b = (Int.gcd t b : Int) := if_neg q
    have e1 : t.fdiv (sgd t b) = p := key _ _ _ (by omega) (by rw [es]; exact hp)
    have e2 : b.fdiv (sgd t b) = r := key _ _ _ (by omega) (by rw [es]; exact hr)
    rw [e1, e2, es]
    refine ⟨by grind, ?_, by grind, by grind, hg⟩
    exact Int.not_le.mp fun z => by
      have := Int.mul_nonpos_of_nonneg_of_nonpos (Int.le_of_lt g1) z
      omega

/-! M16: loops as folds; sizes of integers -/
theorem forM_fold {α β : Type} {g : α → Va} {S : β → Ev → Sto → Prop} {step : β → α → β} {tg : MG} {b : MS} : ∀ {l : List α} {b0 : β} {ρ : Ev} {st : Sto}, S b0 ρ st →
    (∀ l1 x l2, l = l1 ++ x :: l2 → ∀ ρ st, S (l1.foldl step b0) ρ st → ∃ ρ1 ρ2 st2, tg (g x) ρ = some ρ1 ∧ b ρ1 st = .nx ρ2 st2 ∧ S (step (l1.foldl step b0) x) ρ2 st2) →
    ∃ ρ1 st1, forM none tg b (l.map g) ρ st = .nx ρ1 st1 ∧ S (l.foldl step b0) ρ1 st1
  | [], b0, ρ, st, h, _ => ⟨ρ, st, forM_nil' .., h⟩
  | x :: l, b0, ρ, st, h, hb => by
    obtain ⟨ρ1, ρ2, st2, h1, h2, h3⟩ := hb [] x l rfl ρ st h
    obtain ⟨ρ3, st3, h4, h5⟩ := forM_fold (l := l) (b0 := step b0 x) (S := S) (step := step) (g := g) (tg := tg) (b := b) h3 fun l1 y l2 e ρ st hs => hb (x :: l1) y l2 (by rw [e]; rfl) ρ st hs
    refine ⟨ρ3, st3, ?_, h5⟩
    rw [List.map_cons, forM_cons', h1]
    simp only [h2, loopO_nx, h4]
theorem mFor_fold {α β : Type} {g : α → Va} (S : β → Ev → Sto → Prop) (step : β → α → β) {mi : MI} {tg : MG} {b : MS} (l : List α) (b0 : β) {ρ : Ev} {st st0 : Sto} (h : mi ρ st = .ok ⟨l.map g, none⟩ st0) (hs : S b0 ρ st0)
    (hb : ∀ l1 x l2, l = l1 ++ x :: l2 → ∀ ρ st, S (l1.foldl step b0) ρ st → ∃ ρ1 ρ2 st2, tg (g x) ρ = some ρ1 ∧ b ρ1 st = .nx ρ2 st2 ∧ S (step (l1.foldl step b0) x) ρ2 st2) :
    ∃ ρ1 st1, mFor mi tg b ρ st = .nx ρ1 st1 ∧ S (l.foldl step b0) ρ1 st1 := by
  rw [mFor_eq h]
  exact forM_fold hs hb
/-! sizes -/
def Bd (k : Nat) (i : Int) : Prop := i.natAbs < 2 ^ k
theorem Bd.mono {k m : Nat} {i : Int} (h : Bd k i) (le : k ≤ m) : Bd m i := Nat.lt_of_lt_of_le h (Nat.pow_le_pow_right (by decide) le)
theorem Bd.mul {a b : Nat} {i j : Int} (h : Bd a i) (h2 : Bd b j) : Bd (a + b) (i * j) := by
  unfold Bd at *
  rw [Int.natAbs_mul, Nat.pow_add]
  by_cases z : j.natAbs = 0
  · rw [z, Nat.mul_zero]
    exact Nat.mul_pos (Nat.two_pow_pos a) (Nat.two_pow_pos b)
  · exact Nat.mul_lt_mul_of_lt_of_le h (Nat.le_of_lt h2) (by omega)
theorem Bd.add {a : Nat} {i j : Int} (h : Bd a i) (h2 : Bd a j) : Bd (a + 1) (i + j) := by
  unfold Bd at *
  rw [Nat.pow_succ]
  omega
theorem Bd.zero {a : Nat} : Bd a 0 := Nat.two_pow_pos a
theorem Bd.neg {a : Nat} {i : Int} (h : Bd a i) : Bd a (-i) := by unfold Bd; rw [Int.natAbs_neg]; exact h
theorem Bd.log2 {a : Nat} {i : Int} (h : Bd a i) : i.natAbs.log2 ≤ a := by
  by_cases z : i.natAbs = 0
  · rw [z]; exact Nat.zero_le _
  · exact Nat.le_of_lt ((Nat.log2_lt z).mpr h)
theorem Bd.cmul {a b : Nat} {i j : Int} (h : Bd a i) (h2 : Bd b j) (hl : a + b < 1000000) : CMulW i j := by
  have := h.log2
  have := h2.log2
  unfold CMulW
  omega
theorem Bd.cdiv {a : Nat} {i j : Int} (h : Bd a j) (h0 : j ≠ 0) (hl : a < 9000) : CDivX i j := ⟨h0, by have := h.log2; omega⟩
theorem Bd.dvd {a : Nat} {i j : Int} (h : Bd a j) (d : i ∣ j) (h0 : j ≠ 0) : Bd a i := Nat.lt_of_le_of_lt (Nat.le_of_dvd (by omega) (Int.natAbs_dvd_natAbs.mpr d)) h
theorem Bd.sum {a n : Nat} : ∀ {l : List Int}, l.length ≤ 2 ^ n → (∀ x ∈ l, Bd a x) → Bd (a + n) l.sum := by
  have key : ∀ {l : List Int}, (∀ x ∈ l, Bd a x) → l.sum.natAbs ≤ l.length * (2 ^ a - 1) := fun {l} => by
    induction l with
    | nil => intro _; simp
    | cons x l ih =>
      intro h
      have h1 := ih fun y hy => h y (List.mem_cons_of_mem _ hy)
      have h2 : x.natAbs < 2 ^ a := h x (List.mem_cons_self ..)
      rw [List.sum_cons, List.length_cons, Nat.add_mul]
      have := Int.natAbs_add_le x l.sum
      omega
  intro l hl h
  have h1 := key h
  unfold Bd
  have p := Nat.two_pow_pos a
  have : l.length * (2 ^ a - 1) ≤ 2 ^ n * (2 ^ a - 1) := Nat.mul_le_mul_right _ hl
  have q : 2 ^ n * (2 ^ a - 1) < 2 ^ n * 2 ^ a := Nat.mul_lt_mul_of_pos_left (by omega) (Nat.two_pow_pos n)
  rw [Nat.pow_add, Nat.mul_comm (2 ^ a)]
  omega
theorem sum_ints {α : Type} (l : List α) (f : α → Int) (st : Sto) : oSum [.d (.lst (l.map fun y => .int (f y)))] st = .ok (.d (.int (l.map f).sum)) st := by
  unfold oSum oL1
  simp only [lst?]
  rw [show (l.map fun y => D.int (f y)) = (l.map f).map D.int by rw [List.map_map]; rfl, ints?_map]
  rfl

/-! M18: own errors over any built-in error class, fields stored by the own __init__ -/
section
open PySem.W PySem.Calls PyProof.Rows PySem.HandSPX Builtin Builtin.ObjectAttr
/-- a built-in error class -/
structure XB (B newId initId : String) (tl : List Value) : Prop where
  fb : ExcBaseFacts B newId initId tl
  sf : StoreFacts B tl "object.__setattr__" "object"
  ty : PySem.typeOf (.type B) = pure (.type "type")
  bt : bootBuiltins (Str.ofString B) = some (.type B)
  sb : Manifest.isStub B = false
  nn : Str.ofString B ≠ "__name__"
  nd : (Str.ofString B == ("__debug__" : Str)) = false
structure OxC (K : PySem.W.Frag) (C : Addr) (newId : String) (tl : List Value) : Prop where
  cls : ∃ nm q N bs sn sub ab col dd k0 k1 k2 k3 k5, K.lookup C = some (excClassObj nm q C N bs tl true sn sub ab col dd k0 k1 k2 k3 k5 newId)
  ov : excOver K C tl = true
  sa : findIn K (.ref C) "__setattr__" = some (some (.builtin "object.__setattr__"))
  exC : subIn K (.ref C) (.type "BaseException") = some true
  tyC : typeIn K (.ref C) = some (.type "type")
  kC : keepIn K (.ref C) = true
section
variable {prog : Program} {w : World} {A : Around} {R : Result → Shared → Prop} {hp : Heap} {g : Array GenState} {d : Drawn} {t : Nat} {os : OsState} {K : PySem.W.Frag} {B newId initId : String} {tl : List Value}
/-- the first field -/
theorem ox_set0 {name : Str} {tk : Tok} {v : Value} {x C : Addr} {fv : Array Value} (b : XB B newId initId tl) (Y : K.In hp) (T : OxC K C newId tl) (hx : hp.get? x = some { cls := .ref C, data := .fields fv }) (ha : findIn K (.ref C) name = some none)
    (q : ∀ h' tk' dx, (∀ c o, c ≠ x → hp.get? c = some o → h'.get? c = some o) → hp.objs.size ≤ dx → dx ≠ x → h'.get? x = some { cls := .ref C, dict := some dx, data := .fields fv } → h'.Ns1 dx (fun y => if y = name then some v else none) → R (.ok (.ret .none)) ⟨h', g, d, tk', os⟩) :
    codeAny (model prog w) A (.call (.builtin "object.__setattr__") ⟨[.ref x, .str name tk, v], []⟩) R ⟨hp, g, d, t, os⟩ := by
  obtain ⟨nm, qn, N, bs, sn, sub, ab, col, dd, k0, k1, k2, k3, k5, hC⟩ := T.cls
  have ne0 : x ≠ hp.objs.size := Nat.ne_of_lt (Heap.lt_size hx)
  have lc : clsIn K C = some { name := nm, bases := bs, mro := .ref C :: tl, ns := N, qualname := qn, hasDict := true, slotNames := sn, subclasses := sub, abstract := ab, collection := col, hasDel := false } := by unfold clsIn; rw [hC] <;> rfl
  have lk0 : Looks (model prog w) hp (classData C) _ := looks_clsIn Y lc
  refine osa_openX (r := none) (od := none) b.sf (s := ⟨hp, g, d, t, os⟩) Y ⟨hx, rfl, rfl, trivial⟩ T.ov (by unfold takerIn; rw [ha]; rfl) fun onT => ?_
  show wpAny _ _ (storeInOwnDict (.ref x) (.ref C) (.str name tk) name v onT) _ _ _
  unfold storeInOwnDict ownDictForStores
  repeat (first | with_reducible refine store_in_new ?_ ?_ | with_reducible refine wpAny_loadPart_at hx ?_ | with_reducible refine lk0.at ?_ | wp_step)
  · exact ⟨_, #[], _, (Heap.get?_update_ne _ _ _ _ ne0.symm).trans (Heap.get?_push_at rfl rfl), rfl, fun u hu => absurd hu (by simp), fun _ => rfl⟩
  · intro h' tk' n s
    refine q h' tk' hp.objs.size (fun c o hc ho => ?_) (Nat.le_refl _) ne0.symm ?_ n
    · exact (s.2 c (Nat.ne_of_lt (Heap.lt_size ho))).trans ((Heap.get?_update_ne _ _ _ _ hc).trans (Heap.get?_push_of_some _ ho))
    · exact (s.2 x ne0).trans (Heap.get?_update_self _ (Heap.get?_push_of_some _ hx) rfl)
/-- a further one -/
theorem ox_set1 {name : Str} {tk : Tok} {v : Value} {x C dx : Addr} {fv : Array Value} {m0 : Str → Option Value} {nl : List Str} (b : XB B newId initId tl) (Y : K.In hp) (T : OxC K C newId tl) (hx : hp.get? x = some { cls := .ref C, dict := some dx, data := .fields fv }) (hns : hp.Ns1 dx m0) (hw : Within m0 nl) (hz : nl.length ≤ 1000)
    (ha : findIn K (.ref C) name = some none)
    (q : ∀ h' tk', (∀ c o, c ≠ dx → hp.get? c = some o → h'.get? c = some o) → h'.Ns1 dx (fun y => if y = name then some v else m0 y) → R (.ok (.ret .none)) ⟨h', g, d, tk', os⟩) :
    codeAny (model prog w) A (.call (.builtin "object.__setattr__") ⟨[.ref x, .str name tk, v], []⟩) R ⟨hp, g, d, t, os⟩ := by
  obtain ⟨nm, qn, N, bs, sn, sub, ab, col, dd, k0, k1, k2, k3, k5, hC⟩ := T.cls
  obtain ⟨oD, esD, epD, hoD, _, _⟩ := hns.count hw
  have lc : clsIn K C = some { name := nm, bases := bs, mro := .ref C :: tl, ns := N, qualname := qn, hasDict := true, slotNames := sn, subclasses := sub, abstract := ab, collection := col, hasDel := false } := by unfold clsIn; rw [hC] <;> rfl
  have lk0 : Looks (model prog w) hp (classData C) _ := looks_clsIn Y lc
  refine osa_openX (r := none) (od := some oD) b.sf (s := ⟨hp, g, d, t, os⟩) Y ⟨hx, rfl, rfl, hoD⟩ T.ov (by unfold takerIn; rw [ha]; rfl) fun onT => ?_
  show wpAny _ _ (storeInOwnDict (.ref x) (.ref C) (.str name tk) name v onT) _ _ _
  unfold storeInOwnDict ownDictForStores
  repeat (first | with_reducible refine PySem.OEX.store_in_old hns hw hz ?_ | with_reducible refine wpAny_loadPart_at hx ?_ | with_reducible refine lk0.at ?_ | wp_step)
  intro h' tk' n s
  exact q h' tk' (fun c o hc ho => (s.2 c hc).trans ho) n
end
end
section
open PySem.W PySem.HandSPX
variable {X : Cx} {pins : List (Addr × Obj)} {σ : L2.St} {H : Hp} {s : Shared} {a C dx : Addr} {f : Str} {y : V} {u : Value} {fs : List (Str × V)} {E : Value → Shared → Prop} {A : Around} {B newId initId : String} {tl : List Value}
/-- the heap behind the first store -/
theorem ox_inv {h' : Heap} {tk : Nat} (I : Inv X pins σ H s) (e : H a = some (exo a C none)) (ry : RelV y u) (k : ∀ b o, b ≠ a → s.heap.get? b = some o → h'.get? b = some o) (dn : s.heap.objs.size ≤ dx)
    {t1 : Addr} (hx : h'.get? a = some ({ cls := .ref C, dict := some dx, data := .fields #[.ref t1, .none, .none, .none, .bool false, .none] } : Obj)) (hn : h'.Ns1 dx (fun z => if z = f then some u else none)) :
    Inv X pins σ (upd (upd H dx (exd dx [(f, y)])) a (exo a C (some dx))) { s with heap := h', toks := tk } := by
  have h0 : H dx = none := I.hok.fresh dn
  have nd : ∀ {b : Addr} {o : Obj}, s.heap.get? b = some o → b ≠ dx := fun {b o} q => Nat.ne_of_lt (Nat.lt_of_lt_of_le (Heap.lt_size q) dn)
  have na : ∀ {b : Addr}, H b = none → b ≠ a := fun {b} n z => by rw [z, e] at n; cases n
  have same : ∀ b o, H b = some o → o ≠ exo a C none → upd (upd H dx (exd dx [(f, y)])) a (exo a C (some dx)) b = some o := fun b o q ne => by
    rw [upd_ne (fun z => ne (by rw [z, e] at q; exact (Option.some.inj q).symm)), upd_ne (ne_of_none q h0)]
    exact q
  refine I.un (t' := tk) ⟨fun b o q n _ _ => k b o (na n) q, fun b o q n _ _ => ⟨o.slots, k b o (na n) q⟩, fun b o q n _ => ?_, fun b o q _ => ?_, fun b xs q => same b _ q exo_tup.symm, fun b o v q => same b _ q exo_frz.symm, fun b ps q => ⟨#[], by rw [same b _ q exo_tbl.symm]; simp⟩⟩ fun b o q => ?_
  · rw [upd_ne (na n), upd_ne (nd q)]; exact n
  · by_cases hb : b = a
    · exact ⟨_, by rw [hb]; exact hx⟩
    · exact ⟨o, k b o hb q⟩
  · by_cases hb : b = a
    · subst hb
      rw [upd_same] at q
      cases q
      exact exo_ok hx
    · rw [upd_ne hb] at q
      by_cases hd : b = dx
      · subst hd
        rw [upd_same] at q
        cases q
        exact exd_ok hn (relO_put (fs := []) ry fun g => True.intro)
      · rw [upd_ne hd] at q
        refine (I.hok b o q).stay (fun c v hc z => k c v ?_ z) (fun c hc => same c _ hc exo_own.symm) fun c xs hc => same c _ hc exo_tup.symm
        rcases hc with hc | hc
        · rw [hc]; exact hb
        · exact at_ne e hc exo_own
theorem ox_store0 {Q : Unit → Shared → Prop} (b : XB B newId initId tl) (T : OxC X.K C newId tl) (I : Inv X pins σ H s) (e : H a = some (exo a C none)) (hno : findIn X.K (.ref C) f = some none) (ry : RelV y u)
    (h : ∀ dx s', H dx = none → dx ≠ a → Inv X pins σ (upd (upd H dx (exd dx [(f, y)])) a (exo a C (some dx))) s' → Q () s') : wpAny (model X.prog X.w) A (setAttr (.ref a) f u) Q E s := by
  obtain ⟨t1, ho⟩ := exo_at I.hok e
  obtain ⟨hp, g, d, t, os⟩ := s
  refine set_plain I.kIn (ox := { cls := .ref C, dict := none, data := .fields #[.ref t1, .none, .none, .none, .bool false, .none] }) (od := none) ⟨ho, rfl, rfl, trivial⟩ T.sa ?_
  exact ox_set0 b I.kIn T ho hno fun h' tk' dx k dn dne hx hn => h dx _ (I.hok.fresh dn) dne (ox_inv (tk := tk') I e ry k dn hx hn)
theorem ox_store1 {Q : Unit → Shared → Prop} (b : XB B newId initId tl) (T : OxC X.K C newId tl) (I : Inv X pins σ H s) (e : H a = some (exo a C (some dx))) (ed : H dx = some (exd dx fs)) (hl : fs.length ≤ 900) (hno : findIn X.K (.ref C) f = some none) (ry : RelV y u)
    (h : ∀ s', Inv X pins σ (upd H dx (exd dx ((f, y) :: fs))) s' → Q () s') : wpAny (model X.prog X.w) A (setAttr (.ref a) f u) Q E s := by
  obtain ⟨t1, ho⟩ := exo_at I.hok e
  obtain ⟨mA, hns, rel⟩ := exd_at I.hok ed
  have hw := within_of rel
  obtain ⟨hp, g, d, t, os⟩ := s
  obtain ⟨oD, _, _, hoD, _, _⟩ := hns.count hw
  refine set_plain I.kIn (ox := { cls := .ref C, dict := some dx, data := .fields #[.ref t1, .none, .none, .none, .bool false, .none] }) (od := some oD) ⟨ho, rfl, rfl, hoD⟩ T.sa ?_
  refine ox_set1 b I.kIn T ho hns hw (by rw [List.length_map]; omega) hno fun h' tk' k hn => ?_
  obtain ⟨o', es', ep', e', r'⟩ := id hn
  exact h _ (I.write (t' := tk') (x := dx) (e := dx) (o := exd dx ((f, y) :: fs)) (by rw [ed]; exact True.intro) (.inl rfl) k ⟨o', e'⟩ (exd_ok hn (relO_put ry rel)))
theorem ox_init {us : List Value} {Q : Value → Shared → Prop} (b : XB B newId initId tl) (T : OxC X.K C newId tl) (I : Inv X pins σ H s) (e : H a = some (exo a C none)) (hl : us.length ≤ sizeLine) (h : ∀ s', Inv X pins σ H s' → Q .none s') :
    wpAny (model X.prog X.w) A (call (.builtin initId) (.ref a :: us)) Q E s := by
  obtain ⟨nm, q, N, bs, sn, sub, ab, col, dd, k0, k1, k2, k3, k5, hC⟩ := T.cls
  obtain ⟨t1, ho⟩ := exo_at I.hok e
  obtain ⟨hp, g, d, t, os⟩ := s
  refine wpAny_call (init_base b.fb (fun _ => rfl) (I.kIn _ _ hC) ho hl fun h' t2 k hx => ?_)
  have J := I.write (t' := t) (x := a) (e := a) (o := exo a C none) (by rw [e]; exact True.intro) (.inl rfl) k ⟨_, hx⟩ (exo_ok hx)
  have eu : upd H a (exo a C none) = H := funext fun b => by
    by_cases hb : b = a
    · rw [hb, upd_same, e]
    · rw [upd_ne hb]
  rw [eu] at J
  exact h _ J
end
section
variable {X : Cx} {o e : Expr} {es : List Expr} {to te : TE} {ta : TA} {f : Str} {p p' p1 p2 pos : Pos} {B newId initId : String} {tl : List Value}
/-- B.__init__(self, ..) -/
def tXI (newId : String) (tl : List Value) (K : PySem.W.Frag) (ta : TA) : TE := fun σ H Q => ta σ H fun vs H1 => ∃ (a C : Addr) (ws : List V), vs = .ref a :: ws ∧ ws.length ≤ 1000 ∧ OxC K C newId tl ∧ H1 a = some (exo a C none) ∧ Q .non H1
/-- self.f = e -/
def tXs (newId : String) (tl : List Value) (K : PySem.W.Frag) (f : Str) (to te : TE) : TS := fun D σ H => te σ H fun y H1 => to σ H1 fun x H2 => ∃ a C : Addr, x = .ref a ∧ OxC K C newId tl ∧ PySem.W.findIn K (.ref C) f = some none ∧
  ((H2 a = some (exo a C none) ∧ ∀ dx, H2 dx = none → dx ≠ a → D.nx σ (upd (upd H2 dx (exd dx [(f, y)])) a (exo a C (some dx)))) ∨
    ∃ (dx : Addr) (fs : List (Str × V)), H2 a = some (exo a C (some dx)) ∧ H2 dx = some (exd dx fs) ∧ fs.length ≤ 900 ∧ D.nx σ (upd H2 dx (exd dx ((f, y) :: fs))))
theorem pe_xinit {pl : Sem Bool} (b : XB B newId initId tl) (hg : Gl X (Str.ofString B)) (hm : X.mg (Str.ofString B) = none) (vV : PySem.W.findCls X.K (.type B) (.type "type") "__init__" = some (.val (.builtin initId))) (ha : PA X (e :: es) ta)
    (hc : eval (.Call (.Attribute (.Name (Str.ofString B) p1) "__init__" p2) (e :: es) [] pos) X.env = (do
      let ov ← eval (.Name (Str.ofString B) p1) X.env
      standAt p2.atName
      let (f, first) ← holding [ov] (getMethod ov "__init__" pl)
      callWith pos f first (backTo pos (starEach (e :: es) X.env)) (backToKw pos (keywordEach [] X.env))) := by rfl)
    (he : starEach (e :: es) X.env = (false, eval e X.env) :: starEach es X.env := by rfl) (hpl : (backTo pos (starEach es X.env)).any (·.1) = false := by rfl) (hbi : PySem.W.handedIn (.builtin initId) = true := by decide +kernel) :
    PE X (.Call (.Attribute (.Name (Str.ofString B) p1) "__init__" p2) (e :: es) [] pos) (tXI newId tl X.K ta) := by
  refine ⟨fun pins s σ H Q I h => ?_⟩
  refine PySem.W.methodCall_KW (ld_blt I hg hm b.bt ?_ b.nn b.nd) hc
  obtain ⟨m, fr⟩ := I.fr
  refine PySem.W.method_type fr I.ok.mod.kin b.ty b.sb vV hbi ?_
  show wpAny _ _ (callWith pos (Value.builtin initId) [] (backTo pos (starEach (e :: es) X.env)) []) _ _ _
  refine PyProof.Rows.callWith_method1 (thn (ha.run pos pins _ σ H _ (I.tok _) h) fun us s1 ⟨vs, H1, I1, r1, a, C, ws, ev, hl, T, ea, q⟩ => ?_) he hpl
  subst ev
  cases r1 with
  | @cons _ u0 _ ur ra rw' =>
    obtain rfl : u0 = Value.ref a := ra
    refine ox_init b T I1 ea ?_ fun s' J => ⟨.non, H1, J, rfl, q⟩
    rw [← Paired.length rw', sizeLine_eq]
    omega
theorem ps_xst (b : XB B newId initId tl) (ho : PE X o to) (he : PE X e te) (hs : swapsWith e (some (.Attribute o f p')) pos.line X.env = pure false := by rfl) : PS X (.Assign [.Attribute o f p'] e pos) (tXs newId tl X.K f to te) := by
  refine ⟨fun pins s σ H D I h => ?_⟩
  refine plainObj_wpAny_Assign_Attribute (thn (he.run pins s σ H _ I h) fun v s1 ⟨y, H1, I1, r1, q1⟩ => thn (ho.run pins s1 σ H1 _ I1 q1) fun u s2 ⟨x, H2, I2, r2, a, C, ex, T, hno, q⟩ => ?_) hs
  subst ex
  obtain rfl : u = Value.ref a := r2
  rcases q with ⟨ea, q⟩ | ⟨dx, fs, ea, ed, hl, q⟩
  · exact ox_store0 b T I2 ea hno r1 fun dx s' n ne J => ⟨σ, _, J, q dx n ne⟩
  · exact ox_store1 b T I2 ea ed hl hno r1 fun s' J => ⟨σ, _, J, q⟩
end
section
open PySem.W PySem.HandSPX PyProof.Rows PySem.Spec
variable {X : Cx} {B newId initId : String} {tl : List Value}
/-- the exception is let go; it has no dict -/
theorem mk_endN {pins : List (Addr × Obj)} {σ : L2.St} {H1 H2 : Hp} {Q : XK} {hp hp2 h2 : Heap} {g1 g2 : Array GenState} {d1 d2 : Drawn} {t1 t2 : Nat} {os1 os2 : OsState} {a C : Addr} (T : Raises X (.ref C)) (I1 : Inv X pins σ H1 ⟨hp, g1, d1, t1, os1⟩)
    (ha : hp.objs.size ≤ a) (k : ∀ b o, hp.get? b = some o → hp2.get? b = some o) (un : Un (frs X.stack) [] (upd H1 a (exo a C none)) H2 hp2 h2) (hok : HOk X.prog X.w H2 h2) (ho : os2 = os1) (hb : AllBare g2)
    (ea : H2 a = some (exo a C none)) (q : Q (.ref C) none (del H2 a)) : MkP X pins σ Q (.ref a) ⟨h2, g2, d2, t2, os2⟩ := by
  obtain ⟨t0, hoe⟩ := exo_at hok ea
  have hn : H1 a = none := I1.hok.fresh ha
  obtain ⟨G, g1', g2'⟩ := restrict h2 fun b => decide (b ≠ a)
  have gk : ∀ b, b ≠ a → G.get? b = h2.get? b := fun b hb => g1' b (decide_eq_true hb)
  have nh : ∀ {b : Addr} {o : Obj}, hp.get? b = some o → b ≠ a := fun {b o} z => Nat.ne_of_lt (Nat.lt_of_lt_of_le (Heap.lt_size z) ha)
  have up : ∀ {b : Addr}, b ≠ a → upd H1 a (exo a C none) b = H1 b := fun {b} hb => upd_ne hb
  have U : Un (frs X.stack) [] H1 (del H2 a) hp G := by
    refine ⟨fun b o z n hf hx => ?_, fun b o z n hf hx => ?_, fun b o z n hx => ?_, fun b o z hx => ?_, fun b xs z => ?_, fun b o v z => ?_, fun b ps z => ?_⟩
    · rw [gk b (nh z)]; exact un.keep b o (k b o z) ((up (nh z)).trans n) hf hx
    · rw [gk b (nh z)]; exact un.slot b o (k b o z) ((up (nh z)).trans n) hf hx
    · rw [del_ne (nh z)]; exact un.free b o (k b o z) ((up (nh z)).trans n) hx
    · rw [gk b (nh z)]; exact un.there b o (k b o z) hx
    · rw [del_ne (ne_of_none z hn)]; exact un.tups b xs ((up (ne_of_none z hn)).trans z)
    · rw [del_ne (ne_of_none z hn)]; exact un.frzs b o v ((up (ne_of_none z hn)).trans z)
    · rw [del_ne (ne_of_none z hn)]; exact un.tbls b ps ((up (ne_of_none z hn)).trans z)
  have hok3 : HOk X.prog X.w (del H2 a) G := fun b o z => by
    have hba : b ≠ a := fun e => by rw [e, del_same] at z; cases z
    rw [del_ne hba] at z
    refine (hok b o z).stay (fun c v hc y => ?_) (fun c hc => by rw [del_ne (at_ne ea hc exo_own)]; exact hc) fun c xs hc => by rw [del_ne (at_ne ea hc exo_tup)]; exact hc
    rw [gk c (by
      rcases hc with hc | hc
      · rw [hc]; exact hba
      · exact at_ne ea hc exo_own)]
    exact y
  have J : Inv X pins σ (del H2 a) ⟨G, g2, d2, t2, os2⟩ := I1.call' (ch := []) ho U hok3 hb (fun b z => absurd z (by simp))
  refine ⟨a, _, _, ⟨G, g2, d2, t2, os2⟩, _, .ref C, none, rfl, J, fun b o z => ?_, g2' a (by simp), hoe, ⟨rfl, rfl⟩, rfl, rfl, del_same, rfl, hb, T, q⟩
  by_cases hba : b = a
  · rw [hba, g2' a (by simp)] at z; cases z
  · exact (gk b hba).symm.trans z
theorem ox_call {CX : CXT} {C fI : Addr} {k : Nat} {fd : FuncData} {ps : List Str} {sp : Sp} {pins : List (Addr × Obj)} {σ : L2.St} {H1 : Hp} {s1 : Shared} {us : List Value} {vs : List V} {Q : XK} {R : Addr → VK} (b : XB B newId initId tl) (T : OxC X.K C newId tl) (iC : findIn X.K (.ref C) "__init__" = some (some (.ref fI))) (tI : typeIn X.K (.ref fI) = some (.type "function"))
    (F1 : FnOk X.prog X.w X.K X.mg X.base CX k fI fd ps sp) (hr : Room (k + 1) X.A) (hb : Binds X.K fd ps []) (hx : Passes CX X (fun _ _ _ => False)) (I1 : Inv X pins σ H1 s1) (r1 : Vals vs us) (hz : vs.length ≤ 1000)
    (q1 : ∀ a, H1 a = none → sp (.ref a :: vs) (upd H1 a (exo a C none)) (R a) (fun _ _ _ => False))
    (fin : ∀ a v H2, H1 a = none → R a v H2 → v = .non ∧ ((∃ (d : Addr) (fs : List (Str × V)), H2 a = some (exo a C (some d)) ∧ H2 d = some (exd d fs) ∧ H1 d = none ∧ Q (.ref C) (some d) (upd (del H2 a) d (.xd fs))) ∨ (H2 a = some (exo a C none) ∧ Q (.ref C) none (del H2 a)))) :
    wpAny (model X.prog X.w) X.A (call (.ref C) us) (MkP X pins σ Q) X.xe s1 := by
  obtain ⟨nm, q, N, bs, sn, sub, ab, col, dd, k0, k1, k2, k3, k5, hC⟩ := T.cls
  obtain ⟨hp, g, dr, tk, os⟩ := s1
  have hsz : hp.objs.size ≤ hp.objs.size + 1 := Nat.le_succ _
  have hn : H1 (hp.objs.size + 1) = none := I1.hok.fresh hsz
  have hq := q1 (hp.objs.size + 1) hn
  have kk : ∀ b o, hp.get? b = some o → ((hp.push (kdv_tup us)).push (excO C hp.objs.size)).get? b = some o := fun b o e => Heap.get?_push_of_some _ (Heap.get?_push_of_some _ e)
  have hget : ((hp.push (kdv_tup us)).push (excO C hp.objs.size)).get? (hp.objs.size + 1) = some (excO C hp.objs.size) := by heap_get
  have I2 : Inv X pins σ (upd H1 (hp.objs.size + 1) (exo (hp.objs.size + 1) C none)) ⟨(hp.push (kdv_tup us)).push (excO C hp.objs.size), g, dr, tk, os⟩ :=
    I1.laid (t' := tk) (a := hp.objs.size + 1) (o := exo (hp.objs.size + 1) C none) (h' := (hp.push (kdv_tup us)).push (excO C hp.objs.size)) kk hsz (exo_ok hget)
  have r2 : Vals (V.ref (hp.objs.size + 1) :: vs) (Value.ref (hp.objs.size + 1) :: us) := .cons rfl r1
  have hl : (Value.ref (hp.objs.size + 1) :: us ++ []).length = ps.length := by
    have e := r2.length
    rw [F1.len _ _ _ _ hq] at e
    rw [List.append_nil]
    exact e.symm
  have hus : us.length ≤ sizeLine := by
    rw [← Paired.length r1, sizeLine_eq]
    omega
  have hb' := hb _ (Value.ref (hp.objs.size + 1) :: us) I2.kIn hl
  rw [List.append_nil] at hb'
  have run := F1.run _ X.stack _ _ ⟨Value.ref (hp.objs.size + 1) :: us, []⟩ (Value.ref (hp.objs.size + 1) :: us) _ _ (fun _ _ _ => False) (hr.make C us []) (I2.env0.make C us []) hb' r2 hq
  refine wpAny_call (call_own b.fb (fun _ => rfl) (I1.kIn _ _ hC) (looks_findIn I1.kIn iC) (fun self => bind_fn I1.kIn self tI) hus (codeAny_mono run fun r s' hq' => ?_))
  cases r with
  | error er => exact hx pins σ _ _ er s' I2 hq'
  | ok fl =>
    cases fl with
    | ret u =>
      obtain ⟨v, H2, os2, bare2, un2, hok2, rv, ev⟩ := hq'
      obtain ⟨ev, ev2⟩ := fin _ _ _ hn ev
      subst ev
      obtain ⟨h2, g2, d2, t2, os'⟩ := s'
      rcases ev2 with ⟨d, fs, ea, ed, hd1, q2⟩ | ⟨ea, q2⟩
      · exact ⟨rv, mk_end (raises_own T.exC T.tyC) I1 hsz kk un2 hok2 os2 bare2 ea ed hd1 q2⟩
      · exact ⟨rv, mk_endN (raises_own T.exC T.tyC) I1 hsz kk un2 hok2 os2 bare2 ea q2⟩
    | next => exact False.elim hq'
    | brk => exact False.elim hq'
    | cont => exact False.elim hq'
variable {x : Str} {C fI : Addr} {k : Nat} {fd : FuncData} {ps : List Str} {sp : Sp} {CX : CXT} {e : Expr} {es : List Expr} {ta : TA} {p pos : Pos}
theorem pmk_ox (b : XB B newId initId tl) (T : OxC X.K C newId tl) (iC : findIn X.K (.ref C) "__init__" = some (some (.ref fI))) (tI : typeIn X.K (.ref fI) = some (.type "function"))
    (F1 : FnOk X.prog X.w X.K X.mg X.base CX k fI fd ps sp) (hr : Room (k + 1) X.A) (hb : Binds X.K fd ps []) (hx : Passes CX X (fun _ _ _ => False)) (hg : Gl X x) (hm : X.mg x = some (.ref C)) (ha : PA X (e :: es) ta)
    (hdb : (x == ("__debug__" : Str)) = false := by decide) (he : starEach (e :: es) X.env = (false, eval e X.env) :: starEach es X.env := by rfl) (hpl : (backTo pos (starEach es X.env)).any (·.1) = false := by rfl) :
    PMk X (.Call (.Name x p) (e :: es) [] pos) (tMkO C sp [] ta) := by
  intro pins s σ H Q I h
  refine wpAny_Call_Name_kw (ld_glob I hg hm ?_ hdb)
  refine callWith_K (h₀ := X.base) I.ok.mod.kin T.kC (thn (ha.run pos pins s σ H _ I h) fun us s1 ⟨vs, H1, I1, r1, hz, q1⟩ => ⟨I1.kIn, ?_⟩) he hpl
  refine ox_call b T iC tI F1 hr hb hx I1 r1 hz (fun a ha => by have := q1 a ha; rw [List.append_nil] at this; exact this) fun a v H2 ha z => ?_
  obtain ⟨rfl, d, fs, h1, h2, h3, h4⟩ := z
  exact ⟨rfl, .inl ⟨d, fs, h1, h2, h3, h4⟩⟩
/-- raise C(), C's own __init__ stores nothing -/
def spExc0 (C : Addr) : Sp := fun vs H Q _ => ∃ a : Addr, vs = [.ref a] ∧ H a = some (exo a C none) ∧ Q .non H
def tMkN (C : Addr) : L2.St → Hp → XK → Prop := fun _ H Q => Q (.ref C) none H
theorem pmk_ox0 (b : XB B newId initId tl) (T : OxC X.K C newId tl) (iC : findIn X.K (.ref C) "__init__" = some (some (.ref fI))) (tI : typeIn X.K (.ref fI) = some (.type "function"))
    (F1 : FnOk X.prog X.w X.K X.mg X.base CX k fI fd ps (spExc0 C)) (hr : Room (k + 1) X.A) (hb : Binds X.K fd ps []) (hx : Passes CX X (fun _ _ _ => False)) (hg : Gl X x) (hm : X.mg x = some (.ref C))
    (hdb : (x == ("__debug__" : Str)) = false := by decide) : PMk X (.Call (.Name x p) [] [] pos) (tMkN C) := by
  intro pins s σ H Q I h
  refine wpAny_Call_Name_kw (ld_glob I hg hm ?_ hdb)
  refine callWith_K0 I.kIn T.kC ?_
  refine ox_call (vs := []) (R := fun a v H2 => v = .non ∧ H2 = upd H a (exo a C none)) b T iC tI F1 hr hb hx I .nil (by decide) (fun a ha => ⟨a, rfl, upd_same, rfl, rfl⟩) fun a v H2 ha z => ?_
  obtain ⟨rfl, rfl⟩ := z
  refine ⟨rfl, .inr ⟨upd_same, ?_⟩⟩
  have e : del (upd H a (exo a C none)) a = H := funext fun b => by
    by_cases hb : b = a
    · rw [hb, del_same, ha]
    · rw [del_ne hb, upd_ne hb]
  rw [e]
  exact h
end

/-! M24: facts of the text as Bools; errors over several bases -/
inductive Bk where
  | ve | re | ae | le | oe
  deriving DecidableEq
def Bk.nm : Bk → String
  | .ve => "ValueError" | .re => "RuntimeError" | .ae => "ArithmeticError" | .le => "LookupError" | .oe => "OverflowError"
def Bk.nw : Bk → String
  | .ve => "ValueError.__new__" | .re => "RuntimeError.__new__" | .ae => "ArithmeticError.__new__" | .le => "LookupError.__new__" | .oe => "OverflowError.__new__"
def Bk.it : Bk → String
  | .ve => "ValueError.__init__" | .re => "RuntimeError.__init__" | .ae => "ArithmeticError.__init__" | .le => "LookupError.__init__" | .oe => "OverflowError.__init__"
def Bk.tl : Bk → List Value
  | .ve => [.type "ValueError", .type "Exception", .type "BaseException", .type "object"]
  | .re => [.type "RuntimeError", .type "Exception", .type "BaseException", .type "object"]
  | .ae => [.type "ArithmeticError", .type "Exception", .type "BaseException", .type "object"]
  | .le => [.type "LookupError", .type "Exception", .type "BaseException", .type "object"]
  | .oe => [.type "OverflowError", .type "ArithmeticError", .type "Exception", .type "BaseException", .type "object"]
theorem Bk.ok : ∀ b : Bk, XB b.nm b.nw b.it b.tl
  | .ve => ⟨PySem.F.excBase_ValueError, PySem.F.store_ValueError, by kernel_rfl, PyProof.Rows.Boot.«ValueError», by decide +kernel, by decide, by decide⟩
  | .re => ⟨PySem.F.excBase_RuntimeError, PySem.F.store_RuntimeError, by kernel_rfl, PyProof.Rows.Boot.«RuntimeError», by decide +kernel, by decide, by decide⟩
  | .ae => ⟨PySem.F.excBase_ArithmeticError, PySem.F.store_ArithmeticError, by kernel_rfl, PyProof.Rows.Boot.«ArithmeticError», by decide +kernel, by decide, by decide⟩
  | .le => ⟨PySem.F.excBase_LookupError, PySem.F.store_LookupError, by kernel_rfl, PyProof.Rows.Boot.«LookupError», by decide +kernel, by decide, by decide⟩
  | .oe => ⟨PySem.F.excBase_OverflowError, PySem.F.store_OverflowError, by kernel_rfl, PyProof.Rows.Boot.«OverflowError», by decide +kernel, by decide, by decide⟩
theorem eqI_of {a b : Option (Option Value)} (h : eqI a b = true) : a = b := of_decide_eq_true h
theorem eqB_of {a : Option Bool} {b : Bool} (h : eqB a b = true) : a = some b := of_decide_eq_true h
/-- an own error class -/
def oxB (k : Bk) (c : String) (K : PySem.W.Frag) : Bool := (match K.lookup (gaS K c) with
  | some ⟨.type "type", _, .cls cd, sl⟩ => (match cd.mro, sl.toList with
    | .ref C' :: bm, [_, _, _, _, some (.builtin n), _] => C' == gaS K c && (n == k.nw && (!cd.hasDel && (cd.hasDict && bm == k.tl)))
    | _, _ => false)
  | _ => false) && (PySem.W.excOver K (gaS K c) k.tl && (eqI (PySem.W.findIn K (.ref (gaS K c)) "__setattr__") (some (some (.builtin "object.__setattr__"))) && (eqB (PySem.W.subIn K (.ref (gaS K c)) (.type "BaseException")) true && (decide (PySem.W.typeIn K (.ref (gaS K c)) = some (.type "type")) && (PySem.W.keepIn K (.ref (gaS K c)) &&
  (xfB K (gaS K c) && (eqI (PySem.W.findIn K (.ref (gaS K c)) "__init__") (some (some (.ref (maS K c "__init__")))) && (decide (PySem.W.typeIn K (.ref (maS K c "__init__")) = some (.type "function")) &&
  (match PySem.W.findCls K (.type k.nm) (.type "type") "__init__" with | some (.val (.builtin z)) => decide (z = k.it) | _ => false)))))))))
structure Ox (K : PySem.W.Frag) (k : Bk) (c : String) : Prop where
  oex : OxC K (gaS K c) k.nw k.tl
  xf : XfC K (gaS K c)
  iC : PySem.W.findIn K (.ref (gaS K c)) "__init__" = some (some (.ref (maS K c "__init__")))
  tI : PySem.W.typeIn K (.ref (maS K c "__init__")) = some (.type "function")
  ve : PySem.W.findCls K (.type k.nm) (.type "type") "__init__" = some (.val (.builtin k.it))
theorem oxB_ok {k : Bk} {c : String} {K : PySem.W.Frag} (h : oxB k c K = true) : Ox K k c := by
  obtain ⟨h1, h⟩ := He.ba h
  obtain ⟨h2, h⟩ := He.ba h
  obtain ⟨h3, h⟩ := He.ba h
  obtain ⟨h4, h⟩ := He.ba h
  obtain ⟨h5, h⟩ := He.ba h
  obtain ⟨h6, h⟩ := He.ba h
  obtain ⟨h7, h⟩ := He.ba h
  obtain ⟨h8, h⟩ := He.ba h
  obtain ⟨h9, h10⟩ := He.ba h
  refine ⟨⟨?_, h2, eqI_of h3, eqB_of h4, of_decide_eq_true h5, h6⟩, xfB_ok h7, eqI_of h8, of_decide_eq_true h9, ?_⟩
  · split at h1
    · rename_i dd cd sl ho
      split at h1
      · rename_i C' bm k0 k1 k2 k3 n k5 hm hs
        simp only [Bool.and_eq_true, beq_iff_eq, Bool.not_eq_true'] at h1
        obtain ⟨rfl, rfl, hdel, hdct, rfl⟩ := h1
        obtain ⟨nm, bs, mro, ns, qn, hd, sn, sub, ab, col, del⟩ := cd
        dsimp only at hm hdel hdct
        subst hm hdel hdct
        have hsl : sl = #[k0, k1, k2, k3, some (.builtin k.nw), k5] := by
          obtain ⟨l⟩ := sl
          simp only at hs
          rw [hs]
        subst hsl
        exact ⟨nm, qn, ns, bs, sn, sub, ab, col, dd, k0, k1, k2, k3, k5, ho⟩
      · cases h1
    · cases h1
  · split at h10
    · rename_i q e
      rw [e, of_decide_eq_true h10]
    · cases h10
def xmB (xs : List String) (K : PySem.W.Frag) : Bool := xs.all fun c => xs.all fun e => eqB (PySem.W.exmOne K (.ref (gaS K c)) (.ref (gaS K e))) (decide (c = e))
theorem xmB_ok {xs : List String} {K : PySem.W.Frag} (h : xmB xs K = true) : ∀ c ∈ xs, ∀ e ∈ xs, PySem.W.exmOne K (.ref (gaS K c)) (.ref (gaS K e)) = some (decide (c = e)) := fun c hc e he => eqB_of (List.all_eq_true.mp (List.all_eq_true.mp h c hc) e he)
def nofB (c f : String) (K : PySem.W.Frag) : Bool := eqI (PySem.W.findIn K (.ref (gaS K c)) (Str.ofString f)) (some none)
def gintB (x : String) (i : Int) (K : PySem.W.Frag) : Bool := match PySem.W.nsIn K mainGlobals (Str.ofString x) with
  | some (some (.int j _)) => decide (j = i)
  | _ => false
theorem gint_of {t : Tab} {ex : PySem.W.Frag → Bool} {fn : List Df} {K : PySem.W.Frag} {mg : Str → Option Value} {w : World} (T : Tx t ex fn K mg w) {x : String} {i : Int} (h : gintB x i K = true) : ∃ t, mg (Str.ofString x) = some (.int i t) := by
  unfold gintB at h
  split at h
  · rename_i j tk e
    have : j = i := of_decide_eq_true h
    subst this
    exact ⟨tk, T.g _ _ e⟩
  · cases h
def sfB (c : String) (K : PySem.W.Frag) : Bool := PySem.W.selfFirst K (gaS K c)
def fnB (c m : String) (K : PySem.W.Frag) : Bool := PySem.W.fnIn K (maS K c m)
def bltB (c m id : String) (K : PySem.W.Frag) : Bool := eqI (PySem.W.findIn K (.ref (gaS K c)) (Str.ofString m)) (some (some (.builtin id)))
def cmS (K : PySem.W.Frag) (c m : String) : Addr := match PySem.W.recIn K (maS K c m) "classmethod" with
  | some (.ref f :: _) => f
  | _ => 0
def crdB (c : String) (K : PySem.W.Frag) : Bool := PySem.W.readsIn K (gaS K c) (.type "type") && eqI (PySem.W.specialIn K (.ref (gaS K c)) "__getattribute__") (some (some (.builtin "type.__getattribute__")))
theorem crdB_ok {c : String} {K : PySem.W.Frag} (h : crdB c K = true) : ClX.CRead K (gaS K c) (.type "type") := by
  obtain ⟨h1, h2⟩ := He.ba h
  exact ⟨h1, eqI_of h2⟩
def cmB (c m : String) (K : PySem.W.Frag) : Bool := (match PySem.W.findCls K (.ref (gaS K c)) (.type "type") (Str.ofString m) with
  | some (.get (.builtin z) (.ref p) .none (.ref C')) => decide (z = "classmethod.__get__") && (decide (p = maS K c m) && decide (C' = gaS K c))
  | _ => false) && (match PySem.W.recIn K (maS K c m) "classmethod" with
  | some (.ref f :: _) => PySem.W.fnIn K f
  | _ => false)
theorem cmB_ok {c m : String} {K : PySem.W.Frag} (h : cmB c m K = true) : ClX.CMet K (gaS K c) (.type "type") (Str.ofString m) (maS K c m) (cmS K c m) := by
  obtain ⟨h1, h2⟩ := He.ba h
  have h3 : ∃ rest, PySem.W.recIn K (maS K c m) "classmethod" = some (.ref (cmS K c m) :: rest) ∧ PySem.W.fnIn K (cmS K c m) = true := by
    unfold cmS
    split at h2
    · rename_i f rest e
      rw [e]
      exact ⟨rest, rfl, h2⟩
    · cases h2
  obtain ⟨rest, e1, e2⟩ := h3
  refine ⟨?_, ⟨rest, e1⟩, e2⟩
  split at h1
  · rename_i z p C' e
    simp only [Bool.and_eq_true, decide_eq_true_eq] at h1
    obtain ⟨rfl, rfl, rfl⟩ := h1
    exact e
  · cases h1
/-- what is static, with the errors -/
def mkG (G : Ga) (xs : List String) (xm : ∀ c ∈ xs, ∀ e ∈ xs, PySem.W.exmOne G.K (.ref (G.ca c)) (.ref (G.ca e)) = some (decide (c = e))) : Ga := { G with xs := xs, xm := xm }
section
variable {G : Ga} {W : L2.WX} {X : Cx}
/-- raise C() -/
def mRaise0 (c : String) : MS := fun ρ st => .er c [] ρ st
theorem ds_raise0 {s : Stmt} {c : String} (hc : c ∈ G.xs) (hp : PS X s (fun _ σ H => tMkN (G.ca c) σ H fun cls d H' => W cls d σ H')) : DS G W X s (mRaise0 c) := by
  refine ⟨_, hp, ?_⟩
  intro σ ρ H F ad st D R S h
  exact h H F ad σ _ _ Ext.refl S R ⟨hc, rfl, .inl ⟨rfl, rfl⟩⟩
end

/-! M32 (trial): own errors made by calls with keywords -/
section
open PySem.HandSPX PySem.Builtin PySem.Builtin.ObjectAttr
section
variable {M : Model} {A : Around} {E : Value → Shared → Prop} {h : Heap} {g : Array GenState} {d : Drawn} {t : Nat} {os : OsState}
variable {nm q : Str} {C N : Addr} {bs bm bmB : List Value} {hdct : Bool} {sn : List Str} {sub : List Value} {ab : Bool} {col : Option Bool} {dd : Option Addr} {k0 k1 k2 k3 k5 : Option Value} {B newId initId : String}
theorem check_new_kw (F : ExcBaseFacts B newId initId bmB) (hT : ∀ X : String, bm.contains (.type X) = bmB.contains (.type X)) {rest : List Value} {kw : List (Str × Value)} {Q : Unit → Shared → Prop}
    (hC : h.get? C = some (excClassObj nm q C N bs bm hdct sn sub ab col dd k0 k1 k2 k3 k5 newId)) (hq : Q () ⟨h, g, d, t, os⟩) : wpAny M A (checkBuiltinCall newId ⟨.ref C :: rest, kw⟩) Q E ⟨h, g, d, t, os⟩ := by
  have hcont : (Value.ref C :: bm).contains (.type B) = true := by rw [List.contains_cons, hT, F.hasB, Bool.or_true]
  have hstar := F.noStar
  simp only [checkBuiltinCall, F.newKind, F.newSplit, F.newRow]
  repeat (first | refine wpAny_loadPart_at hC ?_ | (refine wpAny_isSubtype_exc hC ?_; rw [hcont]) | refine wpAny_staticBase_exc hC ?_ | refine wpAny_madeBy_exc hC ?_ | simp only [bne_self_eq_false, Bool.false_eq_true, if_false] | wp_step)
  exact hq
end
section
variable {prog : Program} {w : World} {A : Around} {E : Value → Shared → Prop} {R : Result → Shared → Prop} {h : Heap} {g : Array GenState} {d : Drawn} {t : Nat} {os : OsState}
variable {nm q : Str} {C N : Addr} {bs bm bmB : List Value} {hdct : Bool} {sn : List Str} {sub : List Value} {ab : Bool} {col : Option Bool} {dd : Option Addr} {k0 k1 k2 k3 k5 : Option Value} {B newId initId : String}
theorem new_kw (F : ExcBaseFacts B newId initId bmB) (hT : ∀ X : String, bm.contains (.type X) = bmB.contains (.type X)) {rest : List Value} {kw : List (Str × Value)}
    (hC : h.get? C = some (excClassObj nm q C N bs bm hdct sn sub ab col dd k0 k1 k2 k3 k5 newId))
    (hq : R (.ok (.ret (.ref (h.objs.size + 1)))) ⟨(h.push { cls := .type "tuple", data := .seq rest.toArray }).push
      { cls := .ref C, data := .fields #[.ref h.objs.size, .none, .none, .none, .bool false, .none] }, g, d, t, os⟩) (hrest : rest.length ≤ sizeLine) :
    codeAny (model prog w) A (.builtin newId ⟨.ref C :: rest, kw⟩) R ⟨h, g, d, t, os⟩ := by
  have hends := F.ends
  have hcB : (Value.ref C :: bm).contains (.type B) = true := by rw [List.contains_cons, hT, F.hasB, Bool.or_true]
  have hcA : (Value.ref C :: bm).contains (.type "AttributeError") = false := by rw [List.contains_cons, hT, F.noAttr]; rfl
  have hcN : (Value.ref C :: bm).contains (.type "NameError") = false := by rw [List.contains_cons, hT, F.noName]; rfl
  refine codeAny_builtinAt F.entry ?_
  unfold Builtin.«BaseException.__new__»
  refine wpAt_bind ?_
  show wpAt _ _ _ (stack >>= _) _ _ _
  refine wpAt_bind (wpAt_stack fun p below => wpAt_of_wpAny ?_)
  wp_walk
  refine wpAt_of_wpAny ?_
  rw [F.owner]
  repeat (first | with_reducible refine wpAny_madeHere_exc F.canon hC ?_ | with_reducible refine wpAny_loadPart_at hC ?_ | (with_reducible refine wpAny_isSubtype_exc hC ?_; first | rw [hcB] | rw [hcA] | rw [hcN]) | wp_step)
  show R _ _
  rw [Heap.size_push]
  exact hq

theorem type_call_kw (F : ExcBaseFacts B newId initId bmB) (hT : ∀ X : String, bm.contains (.type X) = bmB.contains (.type X)) {rest : List Value} {kw : List (Str × Value)} {fI : Addr} {Q : Fin → Shared → Prop}
    (hC : h.get? C = some (excClassObj nm q C N bs bm hdct sn sub ab col dd k0 k1 k2 k3 k5 newId))
    (hi : W.Looks (model prog w) h (typeLookup (.ref C) "__init__") (some (.ref fI))) (hb : ∀ self, W.Looks (model prog w) h (bindSpecial (.ref fI) self) (.ref fI, [self])) (hrest : rest.length ≤ sizeLine)
    (hq : codeAny (model prog w) A (.call (.ref fI) ⟨.ref (h.objs.size + 1) :: rest, kw⟩)
      (fun r s' => match r with | .ok (.ret v) => v = .none ∧ Q (.done (.ret (.ref (h.objs.size + 1)))) s' | .ok _ => False | .error e => E e s')
      ⟨(h.push (W.kdv_tup rest)).push (excO C h.objs.size), g, d, t, os⟩) :
    wpAny (model prog w) A (Builtin.«type.__call__» ⟨.ref C :: rest, kw⟩) Q E ⟨h, g, d, t, os⟩ := by
  repeat (first | with_reducible refine wpAny_loadPart_at hC ?_ | with_reducible refine wpAny_madeBy_exc hC ?_ | wp_step)
  refine codeAny_call_builtin_code (Code.quiet_builtin _ F.quiet) (check_new_kw F hT hC ?_)
  refine new_kw F hT hC ?_ hrest
  show wpAny _ _ _ _ _ _
  have k : ∀ b o, h.get? b = some o → ((h.push (W.kdv_tup rest)).push (excO C h.objs.size)).get? b = some o := fun b o e => Heap.get?_push_of_some _ (Heap.get?_push_of_some _ e)
  have hC₁ := k _ _ hC
  have hget : ((h.push (W.kdv_tup rest)).push (excO C h.objs.size)).get? (h.objs.size + 1) = some (excO C h.objs.size) := by heap_get
  have hcC : (Value.ref C :: bm).contains (.ref C) = true := by simp
  have i1 := hi.keeps k
  have b1 := (hb (.ref (h.objs.size + 1))).keeps k
  unfold isInstance
  repeat (first | with_reducible refine wpAny_loadPart_at hget ?_ | (with_reducible refine wpAny_isSubtype_exc hC₁ ?_; rw [hcC]) | wp_step)
  show wpAny _ _ (typeLookup (.ref C) _) _ _ _
  refine i1.at ?_
  refine wpAny_holding (wpAny_bind (b1.at ?_))
  refine wpAny_bind (wpAny_call (codeAny_mono hq fun r s' z => ?_))
  rcases r with e | (v | _ | _ | _) <;> first | exact z | exact z.elim | skip
  obtain ⟨rfl, z⟩ := z
  first
    | exact wpAny_pure (wpAny_pure z)
    | (wp_walk; exact z)

theorem call_kw (F : ExcBaseFacts B newId initId bmB) (hT : ∀ X : String, bm.contains (.type X) = bmB.contains (.type X)) {rest : List Value} {kw : List (Str × Value)} {fI : Addr}
    (hC : h.get? C = some (excClassObj nm q C N bs bm hdct sn sub ab col dd k0 k1 k2 k3 k5 newId))
    (hi : W.Looks (model prog w) h (typeLookup (.ref C) "__init__") (some (.ref fI))) (hb : ∀ self, W.Looks (model prog w) h (bindSpecial (.ref fI) self) (.ref fI, [self])) (hrest : rest.length ≤ sizeLine)
    (hq : codeAny (model prog w) (A.under (.builtin "type.__call__" ⟨.ref C :: rest, kw⟩)) (.call (.ref fI) ⟨.ref (h.objs.size + 1) :: rest, kw⟩) (W.InitBack (h.objs.size + 1) R)
      ⟨(h.push (W.kdv_tup rest)).push (excO C h.objs.size), g, d, t, os⟩) :
    codeAny (model prog w) A (.call (.ref C) ⟨rest, kw⟩) R ⟨h, g, d, t, os⟩ := by
  have f1 := tc_lookup
  have f2 := tc_bind (.ref C)
  have hTy : (⟨h, g, d, t, os⟩ : Shared).TypeIs (.ref C) "type" := ⟨_, hC, rfl⟩
  refine codeAny_of_tree ?_
  show wpAny _ _ (callAny (.ref C) _) _ _ _
  repeat (any_goals (first | assumption | with_reducible refine wpAny_loadPart_at hC ?_ | wp_step))
  refine ⟨rfl, ?_⟩
  refine codeAny_call_builtin_at (Code.quiet_builtin _ (by decide +kernel)) entry_typeCall (wpAny_check_type_call_sub hC (type_call_kw F hT hC hi hb hrest ?_))
  refine codeAny_mono hq fun r s' z => ?_
  rcases r with e | (v | _ | _ | _) <;> exact z

end
end

/-! M33: own errors as values: made (with keywords too), fields read, isinstance -/
section
open PySem PySem.W PySem.HandSPX PyProof.Rows PySem.Spec PySem.Calls
variable {X : Cx} {B newId initId : String} {tl : List Value}
/-- the error stays as a value -/
theorem ox_val {CX : CXT} {C fI : Addr} {k n : Nat} {fd : FuncData} {ps ks : List Str} {sp : Sp} {pins : List (Addr × Obj)} {σ : L2.St} {H1 : Hp} {s1 : Shared} {us ws : List Value} {vs zs : List V} {Q : VK} {gf : List Value → List Value → List Value} {gV : List V → List V → List V}
    (b : XB B newId initId tl) (T : OxC X.K C newId tl) (iC : findIn X.K (.ref C) "__init__" = some (some (.ref fI))) (tI : typeIn X.K (.ref fI) = some (.type "function")) (F1 : FnOk X.prog X.w X.K X.mg X.base CX k fI fd ps sp) (hr : Room (k + 1) X.A) (hb : KBn X.K fd ps (n + 1) ks gf gV)
    (hx : Passes CX X (fun _ _ _ => False)) (I1 : Inv X pins σ H1 s1) (r1 : Vals vs us) (rz : Vals zs ws) (l1 : vs.length = n) (l2 : zs.length = ks.length) (hz : vs.length ≤ 1000)
    (q1 : ∀ a, H1 a = none → sp (gV (.ref a :: vs) zs) (upd H1 a (exo a C none)) (fun v H2 => v = .non ∧ Q (.ref a) H2) (fun _ _ _ => False)) :
    wpAny (model X.prog X.w) X.A (call (.ref C) us (ks.zip ws)) (EP X pins σ Q) X.xe s1 := by
  obtain ⟨nm, q, N, bs, sn, sub, ab, col, dd, k0, k1, k2, k3, k5, hC⟩ := T.cls
  obtain ⟨hp, g, dr, tk, os⟩ := s1
  have sz : hp.objs.size ≤ hp.objs.size + 1 := Nat.le_succ _
  have nn : H1 (hp.objs.size + 1) = none := I1.hok.fresh sz
  have hq := q1 _ nn
  have kp : ∀ b o, hp.get? b = some o → ((hp.push (kdv_tup us)).push (excO C hp.objs.size)).get? b = some o := fun _ _ e => Heap.get?_push_of_some _ (Heap.get?_push_of_some _ e)
  have at_ : ((hp.push (kdv_tup us)).push (excO C hp.objs.size)).get? (hp.objs.size + 1) = some (excO C hp.objs.size) := by heap_get
  have J : Inv X pins σ (upd H1 (hp.objs.size + 1) (exo (hp.objs.size + 1) C none)) ⟨(hp.push (kdv_tup us)).push (excO C hp.objs.size), g, dr, tk, os⟩ := I1.laid (t' := tk) kp sz (exo_ok at_)
  have rs : Vals (V.ref (hp.objs.size + 1) :: vs) (Value.ref (hp.objs.size + 1) :: us) := .cons rfl r1
  have ll : (Value.ref (hp.objs.size + 1) :: us).length = n + 1 := by rw [← rs.length, List.length_cons, l1]
  have lw : ws.length = ks.length := by rw [← rz.length]; exact l2
  have lu : us.length ≤ sizeLine := by
    rw [← Paired.length r1, sizeLine_eq]
    omega
  have run := F1.run _ X.stack _ _ ⟨Value.ref (hp.objs.size + 1) :: us, ks.zip ws⟩ _ _ _ (fun _ _ _ => False) (hr.make C us (ks.zip ws)) (J.env0.make C us (ks.zip ws)) (hb.to _ _ ws J.kIn ll lw) (hb.rel rs rz) hq
  refine wpAny_call (call_kw b.fb (fun _ => rfl) (I1.kIn _ _ hC) (looks_findIn I1.kIn iC) (fun self => bind_fn I1.kIn self tI) lu (codeAny_mono run fun r s' hq' => ?_))
  cases r with
  | error er => exact hx pins σ _ _ er s' J hq'
  | ok fl =>
    cases fl with
    | ret u =>
      obtain ⟨v, H2, I2, rv, rfl, z⟩ := J.after hq'
      exact ⟨rv, .ref (hp.objs.size + 1), H2, I2, rfl, z⟩
    | next => exact False.elim hq'
    | brk => exact False.elim hq'
    | cont => exact False.elim hq'
def tOxV (C : Addr) (n m : Nat) (sp : Sp) (gV : List V → List V → List V) (t tk : TA) : TE := fun σ H Q => t σ H fun vs H1 => tk σ H1 fun zs H2 => vs.length = n ∧ zs.length = m ∧ vs.length ≤ 1000 ∧
  ∀ a, H2 a = none → sp (gV (.ref a :: vs) zs) (upd H2 a (exo a C none)) (fun v H3 => v = .non ∧ Q (.ref a) H3) (fun _ _ _ => False)
variable {CX : CXT} {x : Str} {C fI : Addr} {k n : Nat} {fd : FuncData} {ps ks : List Str} {sp : Sp} {e : Expr} {es : List Expr} {kws : List Keyword} {t tk : TA} {p pos : Pos} {gf : List Value → List Value → List Value} {gV : List V → List V → List V}
/-- C(e, .., k = v, ..) -/
theorem pe_oxV (b : XB B newId initId tl) (T : OxC X.K C newId tl) (iC : findIn X.K (.ref C) "__init__" = some (some (.ref fI))) (tI : typeIn X.K (.ref fI) = some (.type "function"))
    (F1 : FnOk X.prog X.w X.K X.mg X.base CX k fI fd ps sp) (hr : Room (k + 1) X.A) (hb : KBn X.K fd ps (n + 1) ks gf gV) (hx : Passes CX X (fun _ _ _ => False)) (hg : Gl X x) (hm : X.mg x = some (.ref C)) (ha : PA X (e :: es) t) (hkw : PK X kws tk)
    (hall : (backToKw pos (keywordEach kws X.env)).all (·.1.isSome) = true := by rfl) (hks : (backToKw pos (keywordEach kws X.env)).filterMap (·.1) = ks := by rfl)
    (hdb : (x == ("__debug__" : Str)) = false := by decide) (he : starEach (e :: es) X.env = (false, eval e X.env) :: starEach es X.env := by rfl)
    (hpl : ((backTo pos (starEach (e :: es) X.env)).any (·.1) || (backToKw pos (keywordEach kws X.env)).any (·.1.isNone)) = false := by rfl) :
    PE X (.Call (.Name x p) (e :: es) kws pos) (tOxV C n ks.length sp gV t tk) := by
  refine ⟨fun pins s σ H Q I h => wpAny_Call_Name_kw (ld_glob I hg hm (callWith_KW (h₀ := X.base) I.ok.mod.kin T.kC hall (thn (ha.run pos pins s σ H _ I h) fun us s1 ⟨vs, H1, I1, r, q⟩ => ?_) hpl he) hdb)⟩
  refine thn (hkw.run pos pins s1 σ H1 _ I1 q) fun ws s2 ⟨zs, H2, I2, rz, l1, l2, l3, q2⟩ => ⟨I2.kIn, ?_⟩
  rw [hks]
  exact ox_val b T iC tI F1 hr hb hx I2 r rz l1 l2 l3 q2
/-- C(k = v, ..) -/
theorem pe_oxV0 (b : XB B newId initId tl) (T : OxC X.K C newId tl) (iC : findIn X.K (.ref C) "__init__" = some (some (.ref fI))) (tI : typeIn X.K (.ref fI) = some (.type "function"))
    (F1 : FnOk X.prog X.w X.K X.mg X.base CX k fI fd ps sp) (hr : Room (k + 1) X.A) (hb : KBn X.K fd ps (0 + 1) ks gf gV) (hx : Passes CX X (fun _ _ _ => False)) (hg : Gl X x) (hm : X.mg x = some (.ref C)) (hkw : PK X kws tk)
    (hall : (backToKw pos (keywordEach kws X.env)).all (·.1.isSome) = true := by rfl) (hks : (backToKw pos (keywordEach kws X.env)).filterMap (·.1) = ks := by rfl)
    (hdb : (x == ("__debug__" : Str)) = false := by decide) (hpl : ((backTo pos (starEach [] X.env)).any (·.1) || (backToKw pos (keywordEach kws X.env)).any (·.1.isNone)) = false := by rfl) :
    PE X (.Call (.Name x p) [] kws pos) (tOxV C 0 ks.length sp gV (fun _ H Q => Q [] H) tk) := by
  refine ⟨fun pins s σ H Q I h => wpAny_Call_Name_kw (ld_glob I hg hm (callWith_KW0 (h₀ := X.base) I.ok.mod.kin T.kC hall (thn (hkw.run pos pins s σ H _ I h) fun ws s2 ⟨zs, H2, I2, rz, l1, l2, l3, q2⟩ => ⟨I2.kIn, ?_⟩) hpl) hdb)⟩
  rw [hks]
  exact ox_val b T iC tI F1 hr hb hx I2 .nil rz l1 l2 l3 q2
end
/-- how keywords bind, no defaults -/
theorem kbn_of {K : PySem.W.Frag} {x qual : Str} {params : Arguments} {body : List Stmt} {scope : Scope} {f : Addr} {fd : FuncData} {ps : List Str} (F : FunD K x qual params body scope [] [] f fd) (n : Nat) (ks : List Str) (g : {α : Type} → List α → List α → List α)
    (hrel : ∀ {vs zs : List V} {us ws : List Value}, Vals vs us → Vals zs ws → Vals (g vs zs) (g us ws))
    (h : ∀ (kV doc pm : Value) (an : Option Addr) (cdv ct : Value) (us ws : List Value), us.length = n → ws.length = ks.length → bindArgs (PySem.W.fnOf x qual params body scope .none kV doc pm an cdv ct) ⟨us, ks.zip ws⟩ = pure (ps.zip (g us ws))) :
    KBn K fd ps n ks (fun us ws => g us ws) (fun vs zs => g vs zs) := by
  obtain ⟨oc, od, dV, kV, doc, pm, an, cdv, ct, osl, rfl, lk, hcd, hD, hK⟩ := F.ex
  rcases hD with ⟨_, rfl⟩ | ⟨e, _⟩
  · exact ⟨fun s us ws _ l1 l2 => .of_eq (h kV doc pm an cdv ct us ws l1 l2), fun r1 r2 => hrel r1 r2⟩
  · exact absurd rfl e
section
open PySem PySem.W PySem.HandSPX PyProof.Rows PySem.Spec PySem.Calls
variable {X : Cx}
/-- e.f of an error held as a value -/
def tVf (K : PySem.W.Frag) (f : Str) (te : TE) : TE := fun σ H Q => te σ H fun x H1 => ∃ (a C dx : Addr) (fs : List (Str × V)) (v : V), x = .ref a ∧ XfC K C ∧ findIn K (.ref C) f = some none ∧ H1 a = some (exo a C (some dx)) ∧ H1 dx = some (exd dx fs) ∧ fs.lookup f = some v ∧ Q v H1
theorem pe_vf {e : Expr} {te : TE} {pos : Pos} {n : Str} (he : PE X e te) (hb : attributeBase e n X.env (eval e X.env) = eval e X.env := by rfl) : PE X (.Attribute e n pos) (tVf X.K n te) := by
  refine ⟨fun pins s σ H Q I h => attr_of hb (thn (he.run pins s σ H _ I h) fun u s1 hh => ?_)⟩
  obtain ⟨x, H1, I1, rx, a, C, dx, fs, v, rfl, T, hno, ea, ed, l, q⟩ := hh
  obtain rfl : u = Value.ref a := rx
  obtain ⟨t1, ha⟩ := exo_at I1.hok ea
  obtain ⟨mA, hns, hr⟩ := exd_at I1.hok ed
  obtain ⟨od, ho, hl⟩ := lookIn_ns hns
  obtain ⟨u, hu, ru⟩ := RelO.some_of (v := v) (o := mA n) (by rw [← l]; exact hr n)
  exact exc_get I1.kIn (⟨ha, rfl, rfl, ho⟩ : PySem.W.InstAt s1.heap a _ C (some od)) T.ga T.gg T.exC (PySem.W.findObj_own T.hdC hno rfl (by rw [hl, hu])) (handed_of ru) ⟨v, H1, I1.tok _, ru, q⟩
/-- what stands at "__class__" of an error -/
theorem find_clsX {K : PySem.W.Frag} {C : Addr} {od : Option Obj} (hc : (clsIn K C).isSome = true) (ha : findIn K (.ref C) "__class__" = some (some (.builtin "object.__class__"))) (hg : specialIn K (.builtin "object.__class__") "__get__" = some (some (.builtin "getset_descriptor.__get__"))) (ht : takesIn K (.builtin "object.__class__") = some true) : findObj K C od "__class__" = some (.bind (.builtin "getset_descriptor.__get__") (.builtin "object.__class__")) := by
  cases od with
  | none => exact findObj_dataN hc ha hg ht
  | some o => exact findObj_data hc ha hg ht
theorem class_ofX {prog : Program} {w : World} {A : Around} {E : Value → Shared → Prop} {s : Shared} {K : PySem.W.Frag} {x D : Addr} {ox : Obj} {od : Option Obj} {Q : Option Value → Shared → Prop} (T : ExcC K D) (Y : K.In s.heap) (I : InstAt s.heap x ox D od) (h : Q (some (.ref D)) { s with toks := s.toks + 1 }) :
    wpAny (model prog w) A (getAttr? (.ref x) "__class__") Q E s := by
  have hf := find_clsX (od := od) (by obtain ⟨cd, z, _⟩ := any_some T.hd; rw [z]; rfl) T.ha T.hn T.ht
  obtain ⟨h0, gs, dr, t, o⟩ := s
  have y0 := I.type (M := model prog w)
  have y1 := looks_findIn (M := model prog w) Y T.hg
  have y2 := looks_findIn (M := model prog w) Y T.hk
  have y3 := looks_find (M := model prog w) Y I hf
  have ys : Looks (model prog w) h0 (isInstance (.ref x) (.type "BaseException")) true := y0.andThen (looks_subIn Y T.hs)
  have z2 : (Value.builtin "BaseException.__getattribute__" == Value.builtin "object.__getattribute__") = false := by decide +kernel
  unfold getAttr? getAttrBy? getAttrBy
  refine wpAny_bind (wpAny_mkText (wpAny_bind (wpAny_attempt (wpAny_holding (wpAny_bind (y0.at (wpAny_bind (y1.at ?_))))))))
  show wpAny _ _ (if (onTheHeap (Value.ref D) && (Value.builtin "BaseException.__getattribute__" == Value.builtin "object.__getattribute__")) = true then _ else _) _ _ _
  rw [if_neg (show ¬(onTheHeap (Value.ref D) && Value.builtin "BaseException.__getattribute__" == Value.builtin "object.__getattribute__") = true by rw [z2, Bool.and_false]; decide)]
  unfold getAttrByItsOwn hookBefore
  refine wpAny_bind ?_
  rw [if_pos (show onTheHeap (Value.ref D) = true from rfl)]
  refine y2.at (wpAny_bind (wpAny_attempt (wpAny_holding ?_)))
  unfold callGetattribute
  rw [if_neg (show ¬(false && onTheHeap (Value.builtin "BaseException.__getattribute__")) = true by decide)]
  unfold boundAndCalled
  rw [PySem.F.excAttr_ValueError.ga.bind (.ref x)]
  refine wpAny_bind (wpAny_pure (wpAny_call (codeAny_call_builtin PySem.F.excAttr_ValueError.ga.plain PySem.F.entry_bexc_ga ?_)))
  refine @check_slot _ _ _ ⟨h0, gs, dr, t + 1, o⟩ "BaseException.__getattribute__" "BaseException" "__getattribute__" (.ref x) [.str "__class__" t] [] _ (by decide +kernel) (by decide +kernel) ys (PySem.F.args_bexc_ga _ _) ?_
  unfold Builtin.«object.__getattribute__»
  refine wpAny_bind (wpAny_of_eq (a := ((Value.ref x : Value), [Value.str "__class__" t])) (by first | rfl | (simp only [slotArgs]; rfl)) ?_)
  refine wpAny_bind (wpAny_pure (wpAny_bind (y0.at (wpAny_bind (y3.at (wpAny_bind (wpAny_holding (wpAny_call (class_get (s := ⟨h0, gs, dr, t + 1, o⟩) Y I T.hm ?_)))))))))
  refine wpAny_pure ?_
  show wpAny _ _ (handedOut (.ref D)) _ _ _
  rw [handedOut_of (v := .ref D) rfl]
  first
    | exact wpAny_pure (wpAny_pure h)
    | exact wpAny_pure h
    | exact wpAny_pure (wpAny_bind (wpAny_pure (wpAny_pure h)))
theorem kitx_X {K : PySem.W.Frag} {x D : Addr} {ox : Obj} {od : Option Obj} (T : ExcC K D) : KitX K (.ref x) (.ref D) (fun h => InstAt h x ox D od) where
  ty := fun _ _ _ I => I.type
  it := fun _ _ Y _ => by
    obtain ⟨cd, hc, _⟩ := any_some T.hd
    unfold clsIn at hc
    split at hc
    · rename_i ho
      intro A' Q' E' s' kk q
      unfold isType loadHead
      exact wpAny_bind (wpAny_loadPart (kk _ _ (Y _ _ ho)) (wpAny_pure q))
    · cases hc
  ne := fun h tp dd its n sl Y htp => (handS_kitx_exc (x := x) (ox := ox) T.hg T.hk T.hs T.hd T.ha T.hn T.ht T.hm).ne h tp dd its n sl Y htp
  ca := fun Y I k => class_ofX T Y I k
end
/-! mirrors -/
section
open PySem PySem.W PySem.HandSPX PyProof.Rows PySem.Spec PySem.Calls
variable {G : Ga} {W : L2.WX} {X : Cx}
def DK (G : Ga) (W : L2.WX) (X : Cx) (kws : List Keyword) (m : MA) : Prop := ∃ t, PK X kws t ∧ SimA G W t m
theorem dk_nil : DK G W X [] mNil := ⟨_, pk_nil, fun σ ρ H F ad st Q R S h => fin_same S h _ .nil⟩
theorem dk_cons {nm : Option Str} {e : Expr} {kpos : Pos} {kws : List Keyword} {me : ME} {m : MA} (ha : DE G W X e me) (hr : DK G W X kws m) : DK G W X (⟨nm, e, kpos⟩ :: kws) (mCons me m) := by
  obtain ⟨te, pe, se⟩ := ha
  obtain ⟨t, pt, st⟩ := hr
  refine ⟨_, pk_cons pe pt, ?_⟩
  intro σ ρ H F ad sto Q R S h
  refine se σ ρ H F ad sto _ R S ?_
  have h1 := Po.bind h
  revert h1
  generalize me ρ sto = ra
  intro h1
  cases ra with
  | bad => exact h1
  | er c fs st1 => exact h1
  | ok x st1 =>
    intro H1 F1 ad1 e1 S1 v rv
    refine st σ ρ H1 F1 ad1 st1 _ (R.ext e1) S1 ?_
    have h2 := Po.bind (h1 H1 F1 ad1 e1 S1)
    revert h2
    generalize m ρ st1 = rb
    intro h2
    cases rb with
    | bad => exact h2
    | er c fs st2 => exact h2
    | ok y st2 =>
      intro H2 F2 ad2 e2 S2 w rw
      exact fin_same S2 (h2 H2 F2 ad2 e2 S2) _ (.cons (rv.ext e2) rw)
/-- C(..) as a value: the fields' values in the order in which they are stored -/
def excOf (c : String) (fls : List String) (xs : List Va) (st : Sto) : Res Va := match ds? xs with
  | some ds => if ds.length = fls.length ∧ fls.length ≤ 2 then .ok (.d (.exc c (fls.zip ds).reverse)) st else .bad
  | none => .bad
def mExcV (c : String) (fls : List String) (a : MA) : ME := fun ρ st => (a ρ st).bind fun xs st => excOf c fls xs st
def mExcK (c : String) (fls : List String) (p : List Va → List Va) (a : MA) : ME := fun ρ st => (a ρ st).bind fun xs st => excOf c fls (p xs) st
theorem excOf_1 {c fld : String} {vs : List V} {xs : List Va} {H F : Hp} {ad : List Addr} {st : Sto} {Q : VK} {Wv : Value → Option Addr → Hp → Prop} (S : SR G H F ad st) (r : RepVs G F ad vs xs) (h : Po G Wv H F ad (QV G Q) (excOf c [fld] xs st)) :
    vs.length = 1 ∧ ∀ a, H a = none → spExc (Str.ofString fld) (G.ca c) (.ref a :: vs) (upd H a (exo a (G.ca c) none)) (fun v H3 => v = .non ∧ Q (.ref a) H3) (fun _ _ _ => False) := by
  unfold excOf at h
  cases z : ds? xs with
  | none => rw [z] at h; exact h.elim
  | some ds =>
    rw [z] at h
    replace h : Po G Wv H F ad (QV G Q) (if ds.length = [fld].length ∧ [fld].length ≤ 2 then .ok (.d (.exc c ([fld].zip ds).reverse)) st else .bad) := h
    split at h
    · rename_i hl
      have rd := repVs_ds r z
      match ds, hl.1, rd, h with
      | [d], _, .cons (v := v) rv .nil, h =>
        refine ⟨rfl, fun a ha => ⟨a, v, rfl, upd_same, fun dx hd hne => ⟨rfl, ?_⟩⟩⟩
        rw [upd_ne hne] at hd
        have S1 := S.new (o := exd dx [(Str.ofString fld, v)]) hd
        have e1 := ext_new S (o := exd dx [(Str.ofString fld, v)]) hd
        have ha1 : upd H dx (exd dx [(Str.ofString fld, v)]) a = none := by rw [upd_ne (fun e => hne e.symm)]; exact ha
        have S2 := S1.new (o := exo a (G.ca c) (some dx)) ha1
        have e2 := ext_new S1 (o := exo a (G.ca c) (some dx)) ha1
        have eq : upd (upd (upd H a (exo a (G.ca c) none)) dx (exd dx [(Str.ofString fld, v)])) a (exo a (G.ca c) (some dx)) = upd (upd H dx (exd dx [(Str.ofString fld, v)])) a (exo a (G.ca c) (some dx)) := by
          funext b
          by_cases h1 : b = a
          · rw [h1, upd_same, upd_same]
          · rw [upd_ne h1, upd_ne h1]
            by_cases h2 : b = dx
            · rw [h2, upd_same, upd_same]
            · rw [upd_ne h2, upd_ne h2, upd_ne h1]
        rw [eq]
        exact h _ _ _ (e1.trans e2) S2 _ (.exc upd_same (by rw [upd_ne hne]; exact upd_same) (.cons (rv.same (e1.trans e2).fz) .nil))
    · exact h.elim
theorem excOf_2 {c fld fld2 : String} {vs : List V} {xs : List Va} {H F : Hp} {ad : List Addr} {st : Sto} {Q : VK} {Wv : Value → Option Addr → Hp → Prop} (S : SR G H F ad st) (r : RepVs G F ad vs xs) (h : Po G Wv H F ad (QV G Q) (excOf c [fld, fld2] xs st)) :
    vs.length = 2 ∧ ∀ a, H a = none → spExc2 (Str.ofString fld) (Str.ofString fld2) (G.ca c) (.ref a :: vs) (upd H a (exo a (G.ca c) none)) (fun v H3 => v = .non ∧ Q (.ref a) H3) (fun _ _ _ => False) := by
  unfold excOf at h
  cases z : ds? xs with
  | none => rw [z] at h; exact h.elim
  | some ds =>
    rw [z] at h
    replace h : Po G Wv H F ad (QV G Q) (if ds.length = [fld, fld2].length ∧ [fld, fld2].length ≤ 2 then .ok (.d (.exc c ([fld, fld2].zip ds).reverse)) st else .bad) := h
    split at h
    · rename_i hl
      have rd := repVs_ds r z
      match ds, hl.1, rd, h with
      | [d, d2], _, .cons (v := v) rv (.cons (v := v2) rv2 .nil), h =>
        refine ⟨rfl, fun a ha => ⟨a, v, v2, rfl, upd_same, fun dx hd hne => ⟨rfl, ?_⟩⟩⟩
        rw [upd_ne hne] at hd
        have S1 := S.new (o := exd dx [(Str.ofString fld2, v2), (Str.ofString fld, v)]) hd
        have e1 := ext_new S (o := exd dx [(Str.ofString fld2, v2), (Str.ofString fld, v)]) hd
        have ha1 : upd H dx (exd dx [(Str.ofString fld2, v2), (Str.ofString fld, v)]) a = none := by rw [upd_ne (fun e => hne e.symm)]; exact ha
        have S2 := S1.new (o := exo a (G.ca c) (some dx)) ha1
        have e2 := ext_new S1 (o := exo a (G.ca c) (some dx)) ha1
        have eq : upd (upd (upd (upd H a (exo a (G.ca c) none)) dx (exd dx [(Str.ofString fld, v)])) a (exo a (G.ca c) (some dx))) dx (exd dx [(Str.ofString fld2, v2), (Str.ofString fld, v)]) = upd (upd H dx (exd dx [(Str.ofString fld2, v2), (Str.ofString fld, v)])) a (exo a (G.ca c) (some dx)) := by
          funext b
          by_cases h2 : b = dx
          · rw [h2, upd_same, upd_ne hne, upd_same]
          · rw [upd_ne h2]
            by_cases h1 : b = a
            · rw [h1, upd_same, upd_same]
            · rw [upd_ne h1, upd_ne h2, upd_ne h1, upd_ne h1, upd_ne h2]
        rw [eq]
        exact h _ _ _ (e1.trans e2) S2 _ (.exc upd_same (by rw [upd_ne hne]; exact upd_same) (.cons (rv2.same (e1.trans e2).fz) (.cons (rv.same (e1.trans e2).fz) .nil)))
    · exact h.elim
theorem excOf_0 {c : String} {vs : List V} {xs : List Va} {H F : Hp} {ad : List Addr} {st : Sto} {Q : VK} {Wv : Value → Option Addr → Hp → Prop} (S : SR G H F ad st) (r : RepVs G F ad vs xs) (h : Po G Wv H F ad (QV G Q) (excOf c [] xs st)) :
    vs.length = 0 ∧ ∀ a, H a = none → spExc0 (G.ca c) (.ref a :: vs) (upd H a (exo a (G.ca c) none)) (fun v H3 => v = .non ∧ Q (.ref a) H3) (fun _ _ _ => False) := by
  unfold excOf at h
  cases z : ds? xs with
  | none => rw [z] at h; exact h.elim
  | some ds =>
    rw [z] at h
    replace h : Po G Wv H F ad (QV G Q) (if ds.length = ([] : List String).length ∧ ([] : List String).length ≤ 2 then .ok (.d (.exc c (([] : List String).zip ds).reverse)) st else .bad) := h
    split at h
    · rename_i hl
      have rd := repVs_ds r z
      match ds, hl.1, rd, h with
      | [], _, .nil, h =>
        refine ⟨rfl, fun a ha => ⟨a, rfl, upd_same, rfl, ?_⟩⟩
        exact h _ _ _ (ext_new S ha) (S.new ha) _ (.exc0 upd_same)
    · exact h.elim
/-- the promise of an error's own __init__, by its fields -/
def spX (G : Ga) (c : String) : List String → Sp
  | [] => spExc0 (G.ca c)
  | [f] => spExc (Str.ofString f) (G.ca c)
  | f :: g :: _ => spExc2 (Str.ofString f) (Str.ofString g) (G.ca c)
theorem excOf_ok {c : String} : ∀ {fls : List String} {vs : List V} {xs : List Va} {H F : Hp} {ad : List Addr} {st : Sto} {Q : VK} {Wv : Value → Option Addr → Hp → Prop}, SR G H F ad st → RepVs G F ad vs xs → Po G Wv H F ad (QV G Q) (excOf c fls xs st) →
    vs.length = fls.length ∧ vs.length ≤ 2 ∧ ∀ a, H a = none → spX G c fls (.ref a :: vs) (upd H a (exo a (G.ca c) none)) (fun v H3 => v = .non ∧ Q (.ref a) H3) (fun _ _ _ => False)
  | [], _, _, _, _, _, _, _, _, S, r, h => by
    obtain ⟨a, b⟩ := excOf_0 S r h
    exact ⟨a, by omega, b⟩
  | [_], _, _, _, _, _, _, _, _, S, r, h => by
    obtain ⟨a, b⟩ := excOf_1 S r h
    exact ⟨a, by omega, b⟩
  | [_, _], _, _, _, _, _, _, _, _, S, r, h => by
    obtain ⟨a, b⟩ := excOf_2 S r h
    exact ⟨a, by omega, b⟩
  | _ :: _ :: _ :: _, _, _, _, _, _, _, _, _, S, r, h => by
    unfold excOf at h
    split at h
    · split at h
      · rename_i q
        exact absurd q.2 (by simp)
      · exact h.elim
    · exact h.elim
variable {B newId initId : String} {tl : List Value} {x : Str} {fI : Addr} {k n : Nat} {fd : FuncData} {ps ks : List Str} {e : Expr} {es : List Expr} {kws : List Keyword} {p pos : Pos} {c : String} {fls : List String} {m : MA} {gf : List Value → List Value → List Value} {gV : List V → List V → List V}
theorem de_excV (b : XB B newId initId tl) (T : OxC X.K (G.ca c) newId tl) (iC : findIn X.K (.ref (G.ca c)) "__init__" = some (some (.ref fI))) (tI : typeIn X.K (.ref fI) = some (.type "function"))
    (F1 : FnOk X.prog X.w X.K X.mg X.base CX0 k fI fd ps (spX G c fls)) (hr : Room (k + 1) X.A) (hb : KBn X.K fd ps (fls.length + 1) [] gf gV) (hgv : ∀ vs, gV vs [] = vs) (hg : Gl X x) (hm : X.mg x = some (.ref (G.ca c))) (ha : DA G W X (e :: es) m)
    (hdb : (x == ("__debug__" : Str)) = false := by decide) (he : starEach (e :: es) X.env = (false, eval e X.env) :: starEach es X.env := by rfl)
    (hpl : ((backTo pos (starEach (e :: es) X.env)).any (·.1) || (backToKw pos (keywordEach [] X.env)).any (·.1.isNone)) = false := by rfl) : DE G W X (.Call (.Name x p) (e :: es) [] pos) (mExcV c fls m) := by
  obtain ⟨t, pt, s⟩ := ha
  refine ⟨_, pe_oxV b T iC tI F1 hr hb pass0 hg hm pt pk_nil rfl rfl hdb he hpl, ?_⟩
  intro σ ρ H F ad st Q R S h
  refine s σ ρ H F ad st _ R S ?_
  have h1 := Po.bind h
  revert h1
  generalize m ρ st = ra
  intro h1
  cases ra with
  | bad => exact h1
  | er c fs st1 => exact h1
  | ok xs st1 =>
    intro H1 F1 ad1 e1 S1 vs rv
    obtain ⟨l1, l2, z⟩ := excOf_ok S1 rv (h1 H1 F1 ad1 e1 S1)
    refine ⟨l1, rfl, by omega, fun a ha => ?_⟩
    rw [hgv]
    exact z a ha
/-- C(k = v, ..) -/
theorem de_excK (pp : List Va → List Va) (pv : List V → List V) (hp : ∀ F ad vs xs, RepVs G F ad vs xs → RepVs G F ad (pv vs) (pp xs)) (hl : ∀ vs : List V, (pv vs).length = fls.length → vs.length = ks.length) (b : XB B newId initId tl) (T : OxC X.K (G.ca c) newId tl) (iC : findIn X.K (.ref (G.ca c)) "__init__" = some (some (.ref fI))) (tI : typeIn X.K (.ref fI) = some (.type "function"))
    (F1 : FnOk X.prog X.w X.K X.mg X.base CX0 k fI fd ps (spX G c fls)) (hr : Room (k + 1) X.A) (hb : KBn X.K fd ps (0 + 1) ks gf gV) (hgv : ∀ a vs, vs.length = ks.length → gV [a] vs = a :: pv vs) (hg : Gl X x) (hm : X.mg x = some (.ref (G.ca c))) (ha : DK G W X kws m)
    (hall : (backToKw pos (keywordEach kws X.env)).all (·.1.isSome) = true := by rfl) (hks : (backToKw pos (keywordEach kws X.env)).filterMap (·.1) = ks := by rfl)
    (hdb : (x == ("__debug__" : Str)) = false := by decide) (hpl : ((backTo pos (starEach [] X.env)).any (·.1) || (backToKw pos (keywordEach kws X.env)).any (·.1.isNone)) = false := by rfl) : DE G W X (.Call (.Name x p) [] kws pos) (mExcK c fls pp m) := by
  obtain ⟨t, pt, s⟩ := ha
  refine ⟨_, pe_oxV0 b T iC tI F1 hr hb pass0 hg hm pt hall hks hdb hpl, ?_⟩
  intro σ ρ H F ad st Q R S h
  refine s σ ρ H F ad st _ R S ?_
  have h1 := Po.bind h
  revert h1
  generalize m ρ st = ra
  intro h1
  cases ra with
  | bad => exact h1
  | er c fs st1 => exact h1
  | ok xs st1 =>
    intro H1 F1 ad1 e1 S1 vs rv
    obtain ⟨l1, l2, z⟩ := excOf_ok S1 (hp _ _ _ _ rv) (h1 H1 F1 ad1 e1 S1)
    refine ⟨rfl, hl _ l1, by decide, fun a ha => ?_⟩
    rw [hgv _ _ (hl _ l1)]
    exact z a ha
/-- e.f -/
def mVf (f : String) (a : ME) : ME := fun ρ st => (a ρ st).bind fun x st => match x with
  | .d (.exc _ fs) => (match fs.lookup f with
    | some y => .ok (.d y) st
    | none => .bad)
  | _ => .bad
/-- which own errors a field may be read of -/
structure XvOk (G : Ga) (cl : List String) (f : String) : Prop where
  xf : ∀ c ∈ cl, XfC G.K (G.ca c)
  nf : ∀ c ∈ cl, findIn G.K (.ref (G.ca c)) (Str.ofString f) = some none
def mVfIn (cl : List String) (f : String) (a : ME) : ME := fun ρ st => (a ρ st).bind fun x st => match x with
  | .d (.exc c fs) => if c ∈ cl then (match fs.lookup f with
    | some y => .ok (.d y) st
    | none => .bad) else .bad
  | _ => .bad
theorem de_vf {e : Expr} {pos : Pos} {f : String} {cl : List String} {m : ME} (hK : X.K = G.K) (T : XvOk G cl f) (he : DE G W X e m) (hb : attributeBase e (Str.ofString f) X.env (eval e X.env) = eval e X.env := by rfl) : DE G W X (.Attribute e (Str.ofString f) pos) (mVfIn cl f m) := by
  obtain ⟨t, pt, s⟩ := he
  refine ⟨_, pe_vf pt hb, ?_⟩
  intro σ ρ H F ad st Q R S h
  refine simE_bind s R S h fun x v st1 H1 F1 ad1 _ R1 S1 rv h1 => ?_
  cases x with
  | ref n => exact h1.elim
  | d x =>
    cases x with
    | exc c fs =>
      replace h1 : Po G _ H1 F1 ad1 (QV G Q) (if c ∈ cl then (match fs.lookup f with
        | some y => .ok (.d y) st1
        | none => .bad) else .bad) := h1
      split at h1
      · rename_i hc
        cases z : fs.lookup f with
        | none => rw [z] at h1; exact h1.elim
        | some y =>
          rw [z] at h1
          cases rv with
          | exc0 h2 => cases z
          | @exc a dx vfs _ _ h2 h3 t3 =>
            obtain ⟨w, q1, q2⟩ := lookup_f (ad := ad1) (Repf.va t3) (by rw [lookup_d, z]; rfl)
            rw [hK]
            exact ⟨a, _, dx, vfs, w, rfl, T.xf c hc, T.nf c hc, S1.sub _ _ h2, S1.sub _ _ h3, q1, fin_same S1 h1 _ q2⟩
      · exact h1.elim
    | _ => exact h1.elim
/-- isinstance(e, C), e an own error -/
def rIsX (K : PySem.W.Frag) : List V → Hp → VK → Prop := fun xs H Q => ∃ (a C : Addr) (dd : Option Addr) (c : V) (u : Value) (b : Bool), xs = [.ref a, c] ∧ ClsV c u ∧ ExcC K C ∧ H a = some (exo a C dd) ∧ (∀ dx, dd = some dx → ∃ fs, H dx = some (exd dx fs)) ∧ PySem.W.kitOne K (.ref C) u = some b ∧ Q (.bl b) H
theorem call_isX : CallR X (.builtin "isinstance") (rIsX X.K) := by
  intro pins s σ H xs us Q I r h
  obtain ⟨a, C, dd, c, u, b, rfl, k, T, ea, ed, e, q⟩ := h
  obtain ⟨u1, u2, rfl, r1, r2⟩ := vals2 r
  obtain rfl : u1 = Value.ref a := r1
  have e2 := k.eq r2
  subst e2
  obtain ⟨t1, ha⟩ := exo_at I.hok ea
  cases dd with
  | none => exact PySem.W.kia_one (kitx_X (od := none) T) I.kIn ⟨ha, rfl, rfl, trivial⟩ e (fun z => nomatch z) fun tk => ⟨.bl b, H, I.tok tk, rfl, q⟩
  | some dx =>
    obtain ⟨fs, hd⟩ := ed dx rfl
    obtain ⟨mA, hns, _⟩ := exd_at I.hok hd
    obtain ⟨od, ho, _⟩ := lookIn_ns hns
    exact PySem.W.kia_one (kitx_X (od := some od) T) I.kIn ⟨ha, rfl, rfl, ho⟩ e (fun z => nomatch z) fun tk => ⟨.bl b, H, I.tok tk, rfl, q⟩
/-- the answers for a class, by the error's own one -/
structure IsxOk (G : Ga) (cl : List (String × Bool)) (u : Value) : Prop where
  xc : ∀ p ∈ cl, ExcC G.K (G.ca p.1)
  ki : ∀ p ∈ cl, PySem.W.kitOne G.K (.ref (G.ca p.1)) u = some p.2
def mIsX (cl : List (String × Bool)) (a : ME) : ME := fun ρ st => (a ρ st).bind fun x st => match x with
  | .d (.exc c _) => (match cl.find? (fun p => p.1 == c) with
    | some p => .ok (.d (.bl p.2)) st
    | none => .bad)
  | _ => .bad
theorem de_isX {a t : Expr} {x : Str} {p pos : Pos} {ma : ME} {cl : List (String × Bool)} {c : V} {u : Value} (hK : X.K = G.K) (T : IsxOk G cl u) (hcv : ClsV c u) (hg : Gl X x) (hm : X.mg x = none) (hv : bootBuiltins x = some (.builtin "isinstance")) (ha : DE G W X a ma) (ht : PE X t (tC c))
    (hn : x ≠ "__name__" := by decide) (hdb : (x == ("__debug__" : Str)) = false := by decide) (h1 : starEach [a, t] X.env = (false, eval a X.env) :: starEach [t] X.env := by rfl) (h2 : starEach [t] X.env = (false, eval t X.env) :: starEach [] X.env := by rfl)
    (hpl : (backTo pos (starEach [t] X.env)).any (·.1) = false := by rfl) : DE G W X (.Call (.Name x p) [a, t] [] pos) (mIsX cl ma) := by
  obtain ⟨ta, pa, sa⟩ := ha
  refine ⟨_, pe_callB call_isX hg hm hv (pa_cons pa (pa_cons ht pa_nil h2) h1) hn hdb h1 hpl, ?_⟩
  intro σ ρ H F ad st Q R S h
  refine simE_bind sa R S h fun x v st1 H1 F1 ad1 _ R1 S1 rv h1 => ?_
  show rIsX X.K [v, c] H1 Q
  cases x with
  | ref n => exact h1.elim
  | d x =>
    cases x with
    | exc cc fs =>
      replace h1 : Po G _ H1 F1 ad1 (QV G Q) (match cl.find? (fun p => p.1 == cc) with
        | some p => .ok (.d (.bl p.2)) st1
        | none => .bad) := h1
      cases z : cl.find? (fun p => p.1 == cc) with
      | none => rw [z] at h1; exact h1.elim
      | some pr =>
        rw [z] at h1
        have hm := List.mem_of_find?_eq_some z
        have he : pr.1 = cc := by have := List.find?_some z; exact beq_iff_eq.mp this
        subst he
        have q := fin_same S1 h1 _ (.bl pr.2)
        rw [hK]
        cases rv with
        | @exc0 a _ h2 => exact ⟨a, _, none, c, u, pr.2, rfl, hcv, T.xc _ hm, S1.sub _ _ h2, fun dx e => (by cases e), T.ki _ hm, q⟩
        | @exc a dx vfs _ _ h2 h3 t3 => exact ⟨a, _, some dx, c, u, pr.2, rfl, hcv, T.xc _ hm, S1.sub _ _ h2, fun dx' e => (by cases e; exact ⟨vfs, S1.sub _ _ h3⟩), T.ki _ hm, q⟩
    | _ => exact h1.elim
end

/-! M34: repr of data; defs that are called where no repr runs around them -/
section
open PySem PySem.Spec PyProof.Rows PySem.Calls

mutual
inductive Dr (K : PySem.W.Frag) (H : Hp) : V → PyData → Prop
  | non : Dr K H .non .none
  | bl (b : Bool) : Dr K H (.bl b) (.bool b)
  | int (i : Int) : Dr K H (.int i) (.int i)
  | str (x : Str) : Dr K H (.str x) (.str x)
  | lst {a : Addr} {xs : List V} {ds : List PyData} (h : SqL K H a xs) (t : Drs K H xs ds) : Dr K H (.ref a) (.list ds)
  | tup {a : Addr} {xs : List V} {ds : List PyData} (h : SqT K H a xs) (t : Drs K H xs ds) : Dr K H (.ref a) (.tuple ds)
  | dct {a : Addr} (h : H a = some (.dK [])) : Dr K H (.ref a) (.dict [])
inductive Drs (K : PySem.W.Frag) (H : Hp) : List V → List PyData → Prop
  | nil : Drs K H [] []
  | cons {v : V} {vs : List V} {d : PyData} {ds : List PyData} (h : Dr K H v d) (t : Drs K H vs ds) : Drs K H (v :: vs) (d :: ds)
end
/-- sys.modules is a dict of the written part -/
def smB (K : PySem.W.Frag) : Bool := match K.lookup sysModules with
  | some o => !decide (o.cls = .type "list")
  | none => false
variable {X : Cx} {pins : List (Addr × Obj)} {σ : L2.St} {H : Hp} {s : Shared}
theorem sm_list {a : Addr} {o : Obj} (hb : smB X.K = true) (I : Inv X pins σ H s) (ho : s.heap.get? a = some o) (hc : o.cls = .type "list") : sysModules ≠ a := by
  intro e
  subst e
  unfold smB at hb
  split at hb
  · rename_i u hu
    have := I.kIn _ _ hu
    rw [ho] at this
    cases this
    rw [hc] at hb
    simp at hb
  · cases hb
mutual
theorem Dr.reads (hb : smB X.K = true) (I : Inv X pins σ H s) : ∀ (d : PyData) (v : V) (u : Value), Dr X.K H v d → RelV v u → ∃ as, Reads s.heap u d as ∧ sysModules ∉ as
  | .none, _, _, h, r => by cases h; cases r; exact ⟨_, Reads.none, by simp⟩
  | .bool b, _, _, h, r => by cases h; cases r; exact ⟨_, Reads.bool b, by simp⟩
  | .int i, _, _, h, r => by cases h; obtain ⟨t, rfl⟩ := r; exact ⟨_, Reads.int i t, by simp⟩
  | .str x, _, _, h, r => by cases h; obtain ⟨t, rfl⟩ := r; exact ⟨_, Reads.str x t, by simp⟩
  | .list ds, _, _, h, r => by
    cases h with
    | lst hs ha =>
      cases r
      obtain ⟨its, rv, ⟨o, n, ho, hc, _, hd⟩, _⟩ := I.list hs
      obtain ⟨as, hr, hn⟩ := Drs.reads hb I ds _ its ha rv
      refine ⟨_, Reads.list ho hc hd hr, fun hm => ?_⟩
      rcases List.mem_cons.mp hm with e | e
      · exact sm_list hb I ho hc e
      · exact hn e
  | .tuple ds, _, _, h, r => by
    cases h with
    | tup hs ha =>
      cases r
      obtain ⟨its, rv, ⟨o, ho, hc, n, hd⟩, _⟩ := I.tuple hs
      obtain ⟨as, hr, hn⟩ := Drs.reads hb I ds _ its ha rv
      exact ⟨_, Reads.tuple ho hc hd hr, hn⟩
  | .dict [], _, _, h, r => by
    cases h with
    | dct he =>
      cases r
      obtain ⟨_, hsm, vs, kv, m⟩ := dk_of I.hok he
      cases kv
      obtain ⟨o, es, ep, ho, hx, hd, _, he2, _⟩ := m
      have : es = #[] := by
        obtain ⟨l⟩ := es
        cases l with
        | nil => rfl
        | cons e l => cases he2
      subst this
      refine ⟨_, Reads.dict (kvs := []) ho hx.1 hd .nil .nil, fun hm => ?_⟩
      have hm : sysModules = _ := List.mem_singleton.mp hm
      rw [← hm] at hsm
      exact absurd hsm (by decide)
  | .dict (_ :: _), _, _, h, _ => by cases h
theorem Drs.reads (hb : smB X.K = true) (I : Inv X pins σ H s) : ∀ (ds : List PyData) (vs : List V) (us : List Value), Drs X.K H vs ds → Vals vs us → ∃ as, ReadsAll s.heap us ds as ∧ sysModules ∉ as
  | [], _, _, h, r => by cases h; cases r; exact ⟨_, ReadsAll.nil, by simp⟩
  | d :: ds, _, _, h, r => by
    cases h with
    | cons h1 h2 =>
      cases r with
      | cons r1 r2 =>
        obtain ⟨as, q1, n1⟩ := Dr.reads hb I d _ _ h1 r1
        obtain ⟨bs, q2, n2⟩ := Drs.reads hb I ds _ _ h2 r2
        exact ⟨_, ReadsAll.cons q1 q2, fun hm => (List.mem_append.mp hm).elim n1 n2⟩
end
end
section
open PySem PySem.Spec PyProof.Rows PySem.Calls
section
variable {prog : Program} {w : World} {h0 : Heap}
/-- repr, the text as a value -/
theorem reprObj_reads {v : Value} {d : PyData} {as : List Addr} {A : Around} {E : Value → Shared → Prop} {s : Shared} {Q : Value → Shared → Prop} (r : Reads h0 v d as) (hs : d.showable = true) (hsm : sysModules ∉ as) (hz : d.shown.length ≤ sizeLine) (hg : A.guards = some []) (hu : A.units + d.depth < cLine)
    (hk : ∀ b o, h0.get? b = some o → s.heap.get? b = some o) (hQ : ∀ h' u tk, (∀ b o, s.heap.get? b = some o → h'.get? b = some o) → Q (.str d.shown u) { s with heap := h', toks := tk }) : wpAny (model prog w) A (pyReprObj v) Q E s := by
  cases r with
  | none => simp only [PyData.shown] at hQ; exact pyReprObj_none (hQ s.heap _ _ fun _ _ e => e)
  | bool b => simp only [PyData.shown] at hQ; exact pyReprObj_bool (hQ s.heap _ _ fun _ _ e => e)
  | int i t => simp only [PyData.shown] at hQ; exact pyReprObj_int (by simpa [PyData.showable] using hs) (hQ s.heap _ _ fun _ _ e => e)
  | str x t => simp only [PyData.shown] at hQ hz; exact pyReprObj_str (hQ s.heap _ _ fun _ _ e => e) hz
  | @list a o vs n xs bs h1 h2 h3 h4 =>
    simp only [PyData.shown] at hz hQ
    obtain ⟨cs, hb, hl⟩ := ReprAllK.of_readsAll (prog := prog) (w := w) h4 (by simpa [PyData.showable] using hs) (fun _ hm => hsm (List.mem_cons_of_mem _ hm)) (fun t ht => Nat.le_trans (listText_mem_le ht) hz)
    have na : a ∉ cs := not_mem_of_deeper (Reads.list h1 h2 h3 h4) (by simp only [PyData.depth]; omega) hb
    simp only [PyData.depth] at hu
    obtain ⟨l⟩ := vs
    cases l with
    | nil =>
      have h5 : ReadsAll h0 [] xs _ := h4
      cases h5
      simp only [PyData.shownAll, listText_nil] at hQ
      exact wpAny_pyReprObj_list_empty ⟨_, hk _ _ h1, h2⟩ (by omega) (hk _ _ h1) h3 (hQ s.heap _ _ fun _ _ e => e)
    | cons x l => exact wpAny_pyReprObj_listK h1 h2 h3 na (by simpa using hl.length_eq) (fun i y e => hl.item i y (by simpa using e)) hg (fun b _ => Clear.nil b) (by omega) hk hQ hz
  | @tuple a o vs n xs _ h1 h2 h3 h4 =>
    simp only [PyData.shown] at hz hQ
    obtain ⟨cs, hb, hl⟩ := ReprAllK.of_readsAll (prog := prog) (w := w) h4 (by simpa [PyData.showable] using hs) (fun _ => hsm) (fun t ht => Nat.le_trans (tupleText_mem_le ht) hz)
    have na : a ∉ cs := not_mem_of_deeper (Reads.tuple h1 h2 h3 h4) (by simp only [PyData.depth]; omega) hb
    simp only [PyData.depth] at hu
    exact wpAny_pyReprObj_tupleK h1 h2 h3 na hl hg (fun b _ => Clear.nil b) (by omega) hk hQ hz
  | @dict a o es n kvs c1 c2 h1 h2 h3 h4 h5 =>
    obtain ⟨z1, z2⟩ := PyData.showableKv_split kvs (by simpa [PyData.showable] using hs)
    have hz2 : (dictText (PyData.shownKv kvs)).length ≤ sizeLine := by simpa only [PyData.shown] using hz
    obtain ⟨b1, q1, k1⟩ := ReprAllK.of_readsAll (prog := prog) (w := w) h4 z1 (fun _ hm => hsm (List.mem_cons_of_mem _ (List.mem_append_left _ hm))) (fun t ht => let ⟨_, hp, hl⟩ := PyData.shownKv_key_le kvs t ht; Nat.le_trans hl (Nat.le_trans (dictText_mem_le hp) hz2))
    obtain ⟨b2, q2, k2⟩ := ReprAllK.of_readsAll (prog := prog) (w := w) h5 z2 (fun _ hm => hsm (List.mem_cons_of_mem _ (List.mem_append_right _ hm))) (fun t ht => let ⟨_, hp, hl⟩ := PyData.shownKv_val_le kvs t ht; Nat.le_trans hl (Nat.le_trans (dictText_mem_le hp) hz2))
    have na : a ∉ b1 ++ b2 := not_mem_of_deeper (Reads.dict h1 h2 h3 h4 h5) (by simp only [PyData.depth]; omega) ((q1.mono (PyData.depthAll_keys_le kvs)).append (q2.mono (PyData.depthAll_vals_le kvs)))
    have ns : (a == sysModules) = false := beq_eq_false_iff_ne.mpr fun e => hsm (by rw [← e]; exact List.mem_cons_self)
    simp only [PyData.depth] at hu
    simp only [PyData.shown, PyData.shownKv_eq] at hQ
    exact wpAny_pyReprObj_dictK h1 h2 h3 ns na (ReprEntriesK.of_two es.toList _ _ (k1.more_le (fun b hb => List.mem_append_left _ hb) (PyData.depthAll_keys_le kvs)) (k2.more_le (fun b hb => List.mem_append_right _ hb) (PyData.depthAll_vals_le kvs)))
      hg (fun b _ => Clear.nil b) (by omega) hk hQ (by rw [← PyData.shownKv_eq]; exact hz2)
/-- repr(x) does what the object's repr does -/
theorem repr_obj {A : Around} {E : Value → Shared → Prop} {s : Shared} {v : Value} {Q : Fin → Shared → Prop} (h : wpAny (model prog w) A (pyReprObj v) (fun r s' => Q (.done (.ret r)) s') E s) : wpAny (model prog w) A (Builtin.«repr» ⟨[v], []⟩) Q E s := by
  intro Γ p hΓ
  have h := h Γ p hΓ
  unfold pyReprObj at h
  unfold Builtin.«repr»
  rw [Sem.wp_bind'] at h
  show Sem.wp _ _ (cRoomFor "repr" [v] >>= _) _ _ _ _
  rw [Sem.wp_bind']
  refine Sem.wp_mono _ _ _ (fun a p s h => ?_) (fun _ _ _ h => h) p s h
  rw [Sem.wp_bind'] at h ⊢
  refine Sem.wp_mono _ _ _ (fun a p s h => ?_) (fun _ _ _ h => h) p s h
  cases a with
  | none =>
    replace h : Sem.wp (model prog w) Γ (unsupported "internal:no-__repr__" >>= _) _ _ p s := h
    rw [Sem.wp_bind'] at h
    exact False.elim h
  | some a =>
    replace h : Sem.wp (model prog w) Γ (callSpecialIfBound? v (Str.ofString "__repr__") >>= _) _ _ p s := h
    show Sem.wp (model prog w) Γ (callSpecialIfBound? v (Str.ofString "__repr__") >>= _) _ _ p s
    rw [Sem.wp_bind'] at h ⊢
    refine Sem.wp_mono _ _ _ (fun a p s h => ?_) (fun _ _ _ h => h) p s h
    cases a with
    | none => exact False.elim h
    | some r =>
      replace h : Sem.wp (model prog w) Γ (isInstance r (.type "str") >>= _) _ _ p s := h
      show Sem.wp (model prog w) Γ (isInstance r (.type "str") >>= _) _ _ p s
      rw [Sem.wp_bind'] at h ⊢
      refine Sem.wp_mono _ _ _ (fun a p s h => ?_) (fun _ _ _ h => h) p s h
      cases a with
      | true => exact h
      | false =>
        replace h : Sem.wp (model prog w) Γ (typeNameOf r >>= _) _ _ p s := h
        show Sem.wp (model prog w) Γ (typeNameOf r >>= _) _ _ p s
        rw [Sem.wp_bind'] at h ⊢
        refine Sem.wp_mono _ _ _ (fun a p s h => ?_) (fun _ _ _ h => h) p s h
        unfold raiseErrorMade at h ⊢
        rw [Sem.wp_bind'] at h ⊢
        refine Sem.wp_mono _ _ _ (fun a p s h => ?_) (fun _ _ _ h => h) p s h
        rw [Sem.wp_bind'] at h ⊢
        refine Sem.wp_mono _ _ _ (fun e0 p s h => ?_) (fun _ _ _ h => h) p s h
        unfold raiseNew at h ⊢
        rw [Sem.wp_bind'] at h ⊢
        refine Sem.wp_mono _ _ _ (fun a p s h => ?_) (fun _ _ _ h => h) p s h
        cases a with
        | none => cases e0 <;> exact h
        | some hh =>
          cases e0 with
          | ref b =>
            replace h : Sem.wp (model prog w) Γ (if (hh != Value.ref b) = true then _ else _) _ _ p s := h
            show Sem.wp (model prog w) Γ (if (hh != Value.ref b) = true then _ else _) _ _ p s
            split at h
            · rename_i q
              rw [if_pos q]
              rw [Sem.wp_bind'] at h ⊢
              refine Sem.wp_mono _ _ _ (fun a p s h => ?_) (fun _ _ _ h => h) p s h
              rw [Sem.wp_bind'] at h ⊢
              exact Sem.wp_mono _ _ _ (fun a p s h => h) (fun _ _ _ h => h) p s h
            · rename_i q
              rw [if_neg q]
              exact h
          | _ => exact h
end
end
section
open PySem PySem.Spec PyProof.Rows PySem.Calls
variable {X : Cx}
def rRepr (K : PySem.W.Frag) : List V → Hp → VK → Prop := fun xs H Q => ∃ (v : V) (d : PyData), xs = [v] ∧ Dr K H v d ∧ d.showable = true ∧ d.depth ≤ 60 ∧ d.shown.length ≤ sizeLine ∧ Q (.str d.shown) H
theorem call_repr (hb : smB X.K = true) (hg : X.A.guards = some []) (hu : X.A.units + 64 < cLine) : CallR X (.builtin "repr") (rRepr X.K) := by
  intro pins s σ H xs us Q I r h
  obtain ⟨v, d, rfl, hd, hs, hp, hz, q⟩ := h
  obtain ⟨u, rfl, ru⟩ := vals1 r
  obtain ⟨as, rd, hn⟩ := Dr.reads hb I d v u hd ru
  refine Calls.call_function_entry F.kind_repr F.plain_repr F.entry_repr (F.args_repr1 _) (repr_obj ?_)
  refine reprObj_reads rd hs hn hz hg (show X.A.units + 1 + d.depth < cLine by omega) (fun _ _ e => e) fun h' u' tk k => ⟨_, rfl, .str d.shown, H, I.kept (t' := tk) k, ⟨u', rfl⟩, q⟩
end
mutual
/-- data that repr may be asked of -/
def rpd : Nat → D → Bool
  | _, .non => true
  | _, .bl _ => true
  | _, .int i => decide (i.natAbs.log2 < 1920)
  | _, .str _ => true
  | k, .lst xs => decide (k ≠ 0) && rpds (k - 1) xs
  | k, .tup xs => decide (k ≠ 0) && rpds (k - 1) xs
  | k, .dct [] => decide (k ≠ 0)
  | _, _ => false
def rpds : Nat → List D → Bool
  | _, [] => true
  | k, x :: xs => rpd k x && rpds k xs
end
section
variable {G : Ga} {W : L2.WX} {X : Cx}
mutual
theorem rpd_dr {F H : Hp} (S : Same F H) : ∀ {k : Nat} {x : D} {v : V}, rpd k x = true → Rep G F v x → Dr G.K H v (toP x) ∧ (toP x).showable = true ∧ (toP x).depth ≤ k
  | k, .non, v, _, r => by cases r; exact ⟨.non, by simp [toP, PyData.showable], Nat.zero_le _⟩
  | k, .bl b, v, _, r => by cases r; exact ⟨.bl b, by simp [toP, PyData.showable], Nat.zero_le _⟩
  | k, .int i, v, h, r => by cases r; exact ⟨.int i, by simpa [toP, PyData.showable, rpd] using h, Nat.zero_le _⟩
  | k, .str x, v, h, r => by cases r; exact ⟨.str x, by simp [toP, PyData.showable], Nat.zero_le _⟩
  | k, .lst xs, v, h, r => by
    rw [rpd, Bool.and_eq_true, decide_eq_true_eq] at h
    cases r with
    | lst e t =>
      obtain ⟨h1, h2, h3⟩ := rpds_dr S h.2 t
      exact ⟨.lst (SqL.of (S _ _ e)) h1, by simp only [toP, PyData.showable]; exact h2, by simp only [toP, PyData.depth]; omega⟩
  | k, .tup xs, v, h, r => by
    rw [rpd, Bool.and_eq_true, decide_eq_true_eq] at h
    cases r with
    | tup e t =>
      obtain ⟨h1, h2, h3⟩ := rpds_dr S h.2 t
      exact ⟨.tup (sqT_same S e) h1, by simp only [toP, PyData.showable]; exact h2, by simp only [toP, PyData.depth]; omega⟩
  | k, .dct [], v, h, r => by
    rw [rpd, decide_eq_true_eq] at h
    cases r with
    | dct e t =>
      cases t
      refine ⟨.dct (S _ _ e), by simp [toP, PyData.showable, PyData.showableKv], by simp [toP, PyData.depth, PyData.depthKv]; omega⟩
  | k, .dct (_ :: _), v, h, r => by simp [rpd] at h
  | k, .dcn _, v, h, r => by simp [rpd] at h
  | k, .obj _ _, v, h, r => by simp [rpd] at h
  | k, .cls _, v, h, r => by simp [rpd] at h
  | k, .ty _, v, h, r => by simp [rpd] at h
  | k, .lck _, v, h, r => by simp [rpd] at h
  | k, .exc _ _, v, h, r => by simp [rpd] at h
  | k, .idn _ _, v, h, r => by simp [rpd] at h
theorem rpds_dr {F H : Hp} (S : Same F H) : ∀ {k : Nat} {xs : List D} {vs : List V}, rpds k xs = true → Reps G F vs xs → Drs G.K H vs (toPs xs) ∧ PyData.showableAll (toPs xs) = true ∧ PyData.depthAll (toPs xs) ≤ k
  | k, [], vs, _, r => by cases r; exact ⟨.nil, by simp [toPs, PyData.showableAll], Nat.zero_le _⟩
  | k, x :: xs, vs, h, r => by
    rw [rpds, Bool.and_eq_true] at h
    cases r with
    | cons r t =>
      obtain ⟨a1, a2, a3⟩ := rpd_dr S h.1 r
      obtain ⟨b1, b2, b3⟩ := rpds_dr S h.2 t
      exact ⟨.cons a1 b1, by simp only [toPs, PyData.showableAll, a2, b2, Bool.and_self], by simp only [toPs, PyData.depthAll]; omega⟩
end
theorem dat?_dr {k : Nat} {H F : Hp} {ad : List Addr} {st : Sto} {v : V} {x : Va} {a : D} (S : SR G H F ad st) (r : RepV G F ad v x) (e : dat? x st = some a) (h : rpd k a = true) : Dr G.K H v (toP a) ∧ (toP a).showable = true ∧ (toP a).depth ≤ k := by
  cases x with
  | d x => cases e; exact rpd_dr S.sub h r
  | ref n =>
    obtain ⟨p, hp, rfl⟩ := r
    replace e : (match st[n]? with
      | some (.lst xs) => (ds? xs).map D.lst
      | _ => none) = some a := e
    cases z : st[n]? with
    | none => rw [z] at e; cases e
    | some o =>
      rw [z] at e
      cases o with
      | lst xs =>
        replace e : (ds? xs).map D.lst = some a := e
        obtain ⟨vs, h1, h2⟩ := S.get hp z
        cases zz : ds? xs with
        | none => rw [zz] at e; cases e
        | some ds =>
          rw [zz] at e
          cases e
          obtain ⟨h3, h4⟩ := Bool.and_eq_true_iff.mp (show (decide (k ≠ 0) && rpds (k - 1) ds) = true from h)
          obtain ⟨e1, e2, e3⟩ := rpds_dr S.sub (xs := ds) h4 (repVs_ds h2 zz)
          have hk : k ≠ 0 := of_decide_eq_true h3
          exact ⟨.lst (SqL.of h1) e1, by simp only [toP, PyData.showable]; exact e2, by show PyData.depthAll (toPs ds) + 1 ≤ k; omega⟩
      | _ => cases e
/-- repr(x) -/
def oRepr : OL
  | [x], st => (match dat? (strip x) st with
    | some a => if rpd 60 a = true ∧ (toP a).shown.length ≤ cap then .ok (.d (.str (toP a).shown)) st else .bad
    | none => .bad)
  | _, _ => .bad
theorem sim_repr : SimC G (rRepr G.K) oRepr := by
  intro Wv vs ds H F ad st Q r S h
  match ds, r, h with
  | [], _, h => exact h.elim
  | _ :: _ :: _, _, h => exact h.elim
  | [x], .cons (a := v) r .nil, h =>
    replace h : Po G Wv H F ad (QV G Q) (match dat? (strip x) st with
      | some a => if rpd 60 a = true ∧ (toP a).shown.length ≤ cap then .ok (.d (.str (toP a).shown)) st else .bad
      | none => .bad) := h
    cases z : dat? (strip x) st with
    | none => rw [z] at h; exact h.elim
    | some a =>
      rw [z] at h
      replace h : Po G Wv H F ad (QV G Q) (if rpd 60 a = true ∧ (toP a).shown.length ≤ cap then .ok (.d (.str (toP a).shown)) st else .bad) := h
      split at h
      · rename_i hc
        obtain ⟨e1, e2, e3⟩ := dat?_dr S (strip_ok r) z hc.1
        exact ⟨v, _, rfl, e1, e2, e3, cap_ok hc.2, fin_same S h _ (.str _)⟩
      · exact h.elim
end
/-! defs that are called where no repr runs around them -/
section
open PySem PySem.Spec PyProof.Rows
structure FnG (P : Program) (w : World) (K : PySem.W.Frag) (mg : Str → Option Value) (base : Heap) (CX : CXT) (k : Nat) (f : Addr) (fd : FuncData) (ps : List Str) (sp : Sp) : Prop where
  len : ∀ vs H Q E, sp vs H Q E → vs.length = ps.length
  run : ∀ (A : Around) (outer : List Env) (s : Shared) (H : Hp) (args : Args) (us : List Value) (vs : List V) (Q : VK) (E : XK), Room k A → A.guards = some [] → Env0 P w K mg base A outer s H → BindsTo s fd args (ps.zip us) → Vals vs us → sp vs H Q E → codeAny (model P w) A (.call (.ref f) args) (CR CX outer P w H s Q E) s
theorem FnG.of {P : Program} {w : World} {K : PySem.W.Frag} {mg : Str → Option Value} {base : Heap} {CX : CXT} {k : Nat} {f : Addr} {fd : FuncData} {ps : List Str} {sp : Sp} (F : FnOk P w K mg base CX k f fd ps sp) : FnG P w K mg base CX k f fd ps sp := ⟨F.len, fun A outer s H args us vs Q E hr _ => F.run A outer s H args us vs Q E hr⟩
theorem fn_gof {CX : CXT} {P : Program} {w : World} {K : PySem.W.Frag} {mg : Str → Option Value} {base : Heap} {x qual : Str} {params : Arguments} {body : List Stmt} {scope : Scope} {dvs : List V} {kws : List (Str × V)} {f : Addr} {fd : FuncData} {N ps : List Str} {k : Nat} {sp : Sp} (F : FunD K x qual params body scope dvs kws f fd) (S : FnScope N ps scope) (len : ∀ vs H Q E, sp vs H Q E → vs.length = ps.length)
    (hb : ∀ (cdv : Value) (A : Around) (outer : List Env) (s : Shared) (H : Hp) (vs : List V) (Q : VK) (E : XK), Room k (A.deeper (envOfC qual scope s.heap.objs.size f cdv)) → (A.deeper (envOfC qual scope s.heap.objs.size f cdv)).guards = some [] → sp vs H Q E →
      ∃ t, PSs (cxOf CX P w K mg base N qual scope f cdv A outer s H E) body t ∧ t { nx := fun _ H' => Q .non H', rt := Q } (L2.start N vs) H) : FnG P w K mg base CX (k + 1) f fd ps sp := by
  obtain ⟨oc, od, dV, kV, doc, pm, an, cdv, ct, osl, rfl, lk, hcd, _, _⟩ := F.ex
  refine ⟨len, fun A out s H args us vs Q E hr hg e0 hbd r z => ?_⟩
  have st : ∀ b o, base.get? b = some o → s.heap.get? b = some o := fun b o e => (e0.bs b o e).1
  have kin : K.In s.heap := e0.mod.kin.keeps st
  have nl : s.heap.NoLimit := e0.mod.nolimit.keeps st
  have hn : ∀ y ∈ ps.zip us, scope.names.lookup y.1 = some .local ∨ (scope.names.lookup y.1 = some .cell ∧ ((cellsFrom (s.heap.objs.size + 1) scope.names []).lookup y.1).isSome = true) := by
    rintro ⟨n, v⟩ hy
    exact (S.par n (List.of_mem_zip hy).1).imp id fun q => ⟨q, PySem.W.cellsFrom_some _ _ _ (.inl q)⟩
  refine codeAny_call_function hr.depth (kin _ _ lk) rfl S.co S.gen rfl (PySem.W.codeRec_of kin hcd) (hbd _ _ _ _ (wpAny_newFunctionEnv_cells S.kind hn fun env he s1 y => ?_))
  subst he
  refine ⟨nl.keeps y.toInCall.keep, codeAny_func ?_⟩
  obtain ⟨t, ht, hq⟩ := hb cdv A out s H vs Q E (hr.deeper _) (by first | exact hg | (simpa [Around.deeper] using hg)) z
  refine wpAny_mono (ht.run [] s1 (L2.start N vs) H _ (inv_start S hr.hd e0 (len _ _ _ _ z) r y) hq) (fun fl s' hs => ?_) fun _ _ q => q
  cases fl with
  | ret u =>
    obtain ⟨v, σ2, H2, J, rv, q⟩ := hs
    exact ⟨v, H2, J.os, J.bare, J.base, J.hok, rv, q⟩
  | next =>
    obtain ⟨σ2, H2, J, q⟩ := hs
    exact ⟨V.non, H2, J.os, J.bare, J.base, J.hok, rfl, q⟩
  | brk => obtain ⟨_, _, _, q⟩ := hs; cases q
  | cont => obtain ⟨_, _, _, q⟩ := hs; cases q
/-- the law's call -/
theorem law_callG {P : Program} {w : World} {K : PySem.W.Frag} {mg mb : Str → Option Value} {k : Nat} {fa a : Addr} {fd : FuncData} {x : Str} {sp : Sp} {s1 : Shared} {vs : List Value} {ns : List Int} (kx : K.In s1.heap) (hns : s1.heap.Ns mainGlobals mg) (hb : s1.heap.Ns builtinsNs mb) (hbb : ∀ x : Str, x ≠ "__name__" → mb x = bootBuiltins x) (hlim : s1.heap.NoLimit) (hg : s1.gens = #[])
    (ha : s1.heap.get? a = some { cls := .type "list", data := .seq vs.toArray }) (hi : IntsAre vs ns) (hl : ns.length ≤ sizeLine) (hr : Room k callerA) (F : ∀ base : Heap, K.In base → base.Ns mainGlobals mg → FnG P w K mg base (L2.CX P w) k fa fd [x] sp) (hbind : ∀ (s : Shared) (u : Value), BindsTo s fd ⟨[u], []⟩ [(x, u)])
    (hsp : ∀ H : Hp, Only H → SqL K H a (ns.map V.int) → sp [.ref a] H (fun v _ => v = .bl true) fun _ _ _ => False) : codeAny (model P w) callerA (.call (.ref fa) ⟨[.ref a], []⟩) (fun r s' => r = .ok (.ret (.bool true)) ∧ OldK s1.heap s'.heap ∧ s'.os = s1.os ∧ AllBare s'.gens) s1 := by
  have rv := vals_ints hi
  have ln := hi.length
  have main : ∀ H : Hp, Only H → SqL K H a (ns.map V.int) → HOk P w H s1.heap → (∀ b, H b ≠ none → b = a) → (H a ≠ none → K.lookup a = none) → codeAny (model P w) callerA (.call (.ref fa) ⟨[.ref a], []⟩) (fun r s' => r = .ok (.ret (.bool true)) ∧ OldK s1.heap s'.heap ∧ s'.os = s1.os ∧ AllBare s'.gens) s1 := by
    intro H ho hs ok only free
    have dn : ∀ {b : Addr} {o : Obj} {es : Array DictEntry} {ep : Nat}, s1.heap.get? b = some o → o.data = .dict es ep → H b = none := by
      intro b o es ep e dd
      refine Classical.byContradiction fun z => ?_
      rw [only b z, ha] at e
      cases e
      cases dd
    have nsk : ∀ {b : Addr} {m : Str → Option Value}, s1.heap.Ns b m → (hidT s1.heap H).Ns b m := fun {b m} ⟨o, es, ep, e, d, r⟩ => ⟨o, es, ep, hidT_get e (dn e d), d, r⟩
    have kb : K.In (hidT s1.heap H) := fun b o e => hidT_get (kx b o e) (Classical.byContradiction fun z => by
      have ea := only b z
      rw [ea] at e z
      rw [free z] at e
      cases e)
    obtain ⟨mc, m1, m2⟩ := hlim
    have e0 : Env0 P w K mg (hidT s1.heap H) callerA [] s1 H := ⟨rfl, ⟨kb, nsk hns, ⟨mb, nsk hb, hbb⟩, mc, nsk m1, m2⟩, fun b o e => of_hidT e, Nat.le_of_eq (hidT_size _ _), trivial, fun b hb => absurd (show b ∈ ([] : List Addr) from hb) (by simp), ok, .of_eq hg⟩
    refine codeAny_mono ((F _ kb (nsk hns)).run callerA [] s1 H ⟨[.ref a], []⟩ [.ref a] [.ref a] _ _ hr rfl e0 (hbind s1 (.ref a)) (.cons rfl .nil) (hsp H ho hs)) fun r s' z => ?_
    match r, z with
    | .error e, z =>
      obtain ⟨_, _, _, _, _, _, _, _, _, _, _, _, z⟩ := z
      exact z.elim
    | .ok .next, z => exact False.elim z
    | .ok .brk, z => exact False.elim z
    | .ok .cont, z => exact False.elim z
    | .ok (.ret u), z =>
      obtain ⟨v, H2, os, bare, un, ok2, rr, rfl⟩ := z
      obtain rfl : u = Value.bool true := rr
      refine ⟨rfl, OldK.of_keep fun b o e => ?_, os, bare⟩
      rcases ho b with z | ⟨ob, xs, z⟩
      · exact un.keep b o e z (fun y => absurd (show b ∈ ([] : List Addr) from y) (by simp)) (by simp)
      · have w1 : s1.heap.get? b = some ob := (ok b _ z).1
        have w2 : s'.heap.get? b = some ob := (ok2 b _ (un.frzs b ob _ z)).1
        rw [e] at w1
        cases w1
        exact w2
  cases hk : K.lookup a with
  | some o =>
    have e := kx a o hk
    rw [ha] at e
    cases e
    exact main (fun _ => none) (fun _ => .inl rfl) (.inr ⟨_, vs.toArray, _, hk, rfl, rfl, rfl, by rw [List.size_toArray, ln]; exact hl, by simpa using rv⟩) (fun b u z => by cases z) (fun b z => absurd rfl z) fun z => absurd rfl z
  | none =>
    have at_ : upd (fun _ => none) a (.frz { cls := .type "list", data := .seq vs.toArray } (.lst (ns.map V.int))) a = some (.frz { cls := .type "list", data := .seq vs.toArray } (.lst (ns.map V.int))) := upd_same
    refine main (upd (fun _ => none) a (.frz { cls := .type "list", data := .seq vs.toArray } (.lst (ns.map V.int)))) (fun b => ?_) (.inl (.inr ⟨_, at_⟩)) (fun b u z => ?_) (fun b z => Classical.byContradiction fun q => z (upd_ne q)) fun _ => hk
    · by_cases q : b = a
      · rw [q]; exact .inr ⟨_, _, at_⟩
      · exact .inl (upd_ne q)
    · by_cases q : b = a
      · rw [q] at z ⊢
        rw [at_] at z
        cases z
        exact ⟨ha, by rw [List.length_map]; exact hl, vs, _, rv, ha⟩
      · rw [upd_ne q] at z
        cases z
variable {G : Ga} {W : L2.WX} {X : Cx}
theorem fn_mG {P : Program} {w : World} {mg : Str → Option Value} {base : Heap} {x qual : Str} {params : Arguments} {body : List Stmt} {scope : Scope} {dvs : List V} {kws : List (Str × V)} {f : Addr} {fd : FuncData} {N ps : List Str} {k n : Nat} {b : MS} {K : PySem.W.Frag} (F : FunD K x qual params body scope dvs kws f fd) (S : FnScope N ps scope) (hn : ps.length = n) (hj : ∀ F ad σ, G.jv F ad σ)
    (hb : ∀ (cdv : Value) (A : Around) (outer : List Env) (s : Shared) (H : Hp) (E : XK), Room k (A.deeper (envOfC qual scope s.heap.objs.size f cdv)) → (A.deeper (envOfC qual scope s.heap.objs.size f cdv)).guards = some [] →
      DSs G (fun cls d _ H' => E cls d H') (cxOf (L2.CX P w) P w K mg base N qual scope f cdv A outer s H E) body b) : FnG P w K mg base (L2.CX P w) (k + 1) f fd ps (spM G (mFun n N.length b)) := by
  refine fn_gof F S (fun vs H Q E h => by rw [hn]; exact spM_len h) fun cdv A outer s H vs Q E hr hg h => ?_
  obtain ⟨t, p, z⟩ := hb cdv A outer s H E hr hg
  refine ⟨t, p, ?_⟩
  obtain ⟨F0, ad, st, ds, S0, r, h⟩ := h
  unfold mFun at h
  split at h
  · rename_i hl
    refine z _ _ H F0 ad st _ (start_rel hj r hl) S0 ?_
    revert h
    generalize b (ds.map some ++ List.replicate (N.length - n) none) st = o
    intro h
    cases o with
    | nx ρ st1 => exact fun H' F' ad' σ' e S' R' => h H' F' ad' e S' _ .non
    | rt v st1 => exact fun H' F' ad' v' e S' R' => h H' F' ad' e S' _ R'
    | er c fs ρ st1 => exact fun H' F' ad' σ' cls d e S' R' z => h H' F' ad' cls d e S' z
    | bk ρ st1 => exact h.elim
    | ct ρ st1 => exact h.elim
    | bad => exact h.elim
  · exact h.elim
theorem walk_ofG {l : PySem.W.OpenLaw} {n k : Nat} {q : Program} {loose : List Str} {XP : (Str → Option Value) → Heap → Prop} {YP : World → Heap → Prop} {d : DefRec} {x : Str}
    (hn : l.most = some n) (hn2 : n ≤ sizeLine) (hdf : d.params.defaults = []) (hr : Room k callerA)
    (F : ∀ (w : World) (mg : Str → Option Value) (fa : Addr) (h : Heap), YP w h → h.Ns mainGlobals mg → mg d.name = some (.ref fa) →
      ∃ (K : PySem.W.Frag) (fd : FuncData) (sp : Sp), K.In h ∧ (∀ (s : Shared) (u : Value), BindsTo s fd ⟨[u], []⟩ [(x, u)]) ∧
        (∀ (H : Hp) (a : Addr) (ns : List Int), ns.length ≤ n → Only H → SqL K H a (ns.map V.int) → sp [.ref a] H (fun v _ => v = .bl true) fun _ _ _ => False) ∧
        ∀ base : Heap, K.In base → base.Ns mainGlobals mg → FnG l.prog w K mg base (L2.CX l.prog w) k fa fd [x] sp) :
    PySem.W.WalkO q loose XP YP l.row.toRowW d [] (fun f vs => PySem.call f vs) := by
  refine Att.attach_call hn hdf fun w s₀ s₁ mg mb fa o pm cd doc a vs ns G Y ho hd hcd hmg hobj hints hlen hg => ?_
  obtain ⟨K, fd, sp, KX, hb, hsp, hF⟩ := F w mg fa _ Y G.T.g hmg
  exact law_callG KX G.T.g G.T.b G.T.builtins G.T.nolimit hg hobj hints (Nat.le_trans hlen hn2) hr hF hb fun H hO hS => hsp H a ns hlen hO hS
/-! calls of such defs -/
def OkG (P : Program) (w : World) (K : PySem.W.Frag) (mg : Str → Option Value) (base : Heap) (k : Nat) (f : Addr) (ps : List Str) (sp : Sp) : Prop := ∃ fd, FnG P w K mg base (L2.CX P w) k f fd ps sp ∧ Binds K fd ps [] ∧ PySem.W.keepIn K (.ref f) = true
theorem okg_mk {P : Program} {w : World} {K : PySem.W.Frag} {mg : Str → Option Value} {base : Heap} {x qual : Str} {params : Arguments} {body : List Stmt} {scope : Scope} {f : Addr} {ps : List Str} {k : Nat} {sp : Sp} (F : ∃ fd, FunD K x qual params body scope [] [] f fd)
    (b : ∀ (kV doc pm : Value) (an : Option Addr) (cdv ct : Value) (us : List Value), us.length = ps.length → bindArgs (PySem.W.fnOf x qual params body scope .none kV doc pm an cdv ct) ⟨us, []⟩ = pure (ps.zip us))
    (h : ∀ fd, FunD K x qual params body scope [] [] f fd → FnG P w K mg base (L2.CX P w) k f fd ps sp) : OkG P w K mg base k f ps sp := by
  obtain ⟨fd, F⟩ := F
  exact ⟨fd, h fd F, F.bindsN b, F.kp⟩
theorem pe_callG {CX : CXT} {k : Nat} {f : Addr} {fd : FuncData} {ps : List Str} {sp : Sp} {E : L2.St → XK} {x : Str} {p pos : Pos} {e : Expr} {es : List Expr} {t : TA} (F : FnG X.prog X.w X.K X.mg X.base CX k f fd ps sp) (hr : Room k X.A) (hgd : X.A.guards = some []) (hg : Gl X x) (hm : X.mg x = some (.ref f)) (hk : PySem.W.keepIn X.K (.ref f) = true) (hb : Binds X.K fd ps []) (hx : ∀ σ, PassesAt CX X σ (E σ))
    (ha : PA X (e :: es) t) (hdb : (x == ("__debug__" : Str)) = false := by decide) (he : starEach (e :: es) X.env = (false, eval e X.env) :: starEach es X.env := by rfl) (hpl : (backTo pos (starEach es X.env)).any (·.1) = false := by rfl) : PE X (.Call (.Name x p) (e :: es) [] pos) (tCallSD sp [] E t) := by
  refine ⟨fun pins s σ H Q I h => wpAny_Call_Name_kw (ld_glob I hg hm (PySem.W.callWith_K (h₀ := X.base) I.ok.mod.kin hk (thn (ha.run pos pins s σ H _ I h) fun us s1 ⟨vs, H1, I1, r, q⟩ => ⟨I1.kIn, ?_⟩) he hpl) hdb)⟩
  replace q : sp (vs ++ []) H1 Q (E σ) := q
  rw [List.append_nil] at q
  have hl : us.length = ps.length := by rw [← r.length]; exact F.len _ _ _ _ q
  have bb := hb s1 us I1.kIn (by rw [List.append_nil]; exact hl)
  rw [List.append_nil] at bb
  refine wpAny_call (codeAny_mono (F.run X.A X.stack s1 H1 ⟨us, []⟩ us vs Q (E σ) hr hgd I1.env0 bb r q) fun r s' hq => ?_)
  match r, hq with
  | .error e, hq => exact hx σ pins H1 s1 e s' I1 hq
  | .ok (.ret u), hq => exact I1.after hq
  | .ok .next, hq => exact False.elim hq
  | .ok .brk, hq => exact False.elim hq
  | .ok .cont, hq => exact False.elim hq
theorem ck_callG {k : Nat} {fa : Addr} {ps : List Str} {f : MF} (g : MF) {x : Str} {e : Expr} {ee : List Expr} {p pos : Pos} {m : MA} (F : OkG X.prog X.w X.K X.mg X.base k fa ps (spM G f)) (hgf : g = f ∨ g = pureF f) (hr : Room k X.A) (hgd : X.A.guards = some []) (hg : Gl X x) (hm : X.mg x = some (.ref fa)) (tk : Takes X W)
    (ha : DA G W X (e :: ee) m) (hdb : (x == ("__debug__" : Str)) = false := by decide) (he : starEach (e :: ee) X.env = (false, eval e X.env) :: starEach ee X.env := by rfl) (hpl : (backTo pos (starEach ee X.env)).any (·.1) = false := by rfl) : DE G W X (.Call (.Name x p) (e :: ee) [] pos) (mCall g m) := by
  obtain ⟨t, pt, st⟩ := ha
  obtain ⟨fd, F, hb, hk⟩ := F
  refine ⟨_, pe_callG F hr hgd hg hm hk hb (passAt tk) pt hdb he hpl, sim_call (es := []) dfl_nil ?_ st⟩
  rcases hgf with rfl | rfl
  · exact .inl fun ds st => by simp
  · exact .inr fun ds st => by simp
end

/-! M35: facts about errors as values; {} -/
section
variable {G : Ga} {W : L2.WX} {X : Cx}
def excB (K : PySem.W.Frag) (c : String) : Bool := eqI (PySem.W.findIn K (.ref (gaS K c)) "__getattribute__") (some (some (.builtin "BaseException.__getattribute__"))) && (eqI (PySem.W.findIn K (.ref (gaS K c)) "__getattr__") (some none) && (eqB (PySem.W.subIn K (.ref (gaS K c)) (.type "BaseException")) true && (PySem.W.hasDictIn K (gaS K c) &&
  (eqI (PySem.W.findIn K (.ref (gaS K c)) "__class__") (some (some (.builtin "object.__class__"))) && (eqI (PySem.W.specialIn K (.builtin "object.__class__") "__get__") (some (some (.builtin "getset_descriptor.__get__"))) && (eqB (PySem.W.takesIn K (.builtin "object.__class__")) true && eqB (PySem.W.mroIn K (gaS K c) (.type "object")) true))))))
theorem excB_ok {K : PySem.W.Frag} {c : String} (h : excB K c = true) : ExcC K (gaS K c) := by
  obtain ⟨h1, h⟩ := He.ba h
  obtain ⟨h2, h⟩ := He.ba h
  obtain ⟨h3, h⟩ := He.ba h
  obtain ⟨h4, h⟩ := He.ba h
  obtain ⟨h5, h⟩ := He.ba h
  obtain ⟨h6, h⟩ := He.ba h
  obtain ⟨h7, h8⟩ := He.ba h
  exact ⟨eqI_of h1, eqI_of h2, eqB_of h3, h4, eqI_of h5, eqI_of h6, eqB_of h7, eqB_of h8⟩
def excsB (cl : List String) (K : PySem.W.Frag) : Bool := cl.all (excB K)
/-- isinstance's answers for a class -/
def isxB (u : PySem.W.Frag → Value) (cl : List (String × Bool)) (K : PySem.W.Frag) : Bool := cl.all fun p => eqB (PySem.W.kitOne K (.ref (gaS K p.1)) (u K)) p.2
theorem isx_ok {K : PySem.W.Frag} {cl : List (String × Bool)} {xs : List String} {u : PySem.W.Frag → Value} (hG : G.K = K) (hc : G.ca = gaS K) (h1 : excsB xs K = true) (h2 : isxB u cl K = true) (h3 : ∀ p ∈ cl, p.1 ∈ xs) : IsxOk G cl (u K) where
  xc := fun p hp => by rw [hG, hc]; exact excB_ok (List.all_eq_true.mp h1 p.1 (h3 p hp))
  ki := fun p hp => by rw [hG, hc]; exact eqB_of (List.all_eq_true.mp h2 p hp)
def xvB (f : String) (cl : List String) (K : PySem.W.Frag) : Bool := cl.all fun c => xfB K (gaS K c) && nofB c f K
theorem xv_ok {K : PySem.W.Frag} {cl : List String} {f : String} (hG : G.K = K) (hc : G.ca = gaS K) (h : xvB f cl K = true) : XvOk G cl f where
  xf := fun c hx => by rw [hG, hc]; exact xfB_ok (He.ba (List.all_eq_true.mp h c hx)).1
  nf := fun c hx => by rw [hG, hc]; exact eqI_of (He.ba (List.all_eq_true.mp h c hx)).2
/-- {} that does not change -/
def mDct0 : ME := fun _ st => .ok (.d (.dct [])) st
theorem de_dct0 {pos : Pos} : DE G W X (.Dict [] [] pos) mDct0 := ⟨_, pe_dnewK, fun σ ρ H F ad st Q R S h p hp => fin_new S hp (.dct upd_same .nil) h⟩
/-- == and != of texts -/
def oEqS : O2
  | .d (.str a), .d (.str b), st => .ok (.d (.bl (decide (a = b)))) st
  | _, _, _ => .bad
def oNeS : O2
  | .d (.str a), .d (.str b), st => .ok (.d (.bl (!decide (a = b)))) st
  | _, _, _ => .bad
theorem sim_eqS : SimR2 G rEq oEqS := by
  intro Wv x y dx dy H F ad st Q rx ry S h
  match dx, dy, h with
  | .d (.str a), .d (.str b), h =>
    cases rx; cases ry
    have e : decide (V.str a = V.str b) = decide (a = b) := by rw [Bool.eq_iff_iff]; simp
    refine ⟨rfl, ?_⟩
    rw [e]
    exact fin_same S h _ (.bl _)
theorem sim_neS : SimR2 G rNe oNeS := by
  intro Wv x y dx dy H F ad st Q rx ry S h
  match dx, dy, h with
  | .d (.str a), .d (.str b), h =>
    cases rx; cases ry
    have e : decide (V.str a = V.str b) = decide (a = b) := by rw [Bool.eq_iff_iff]; simp
    refine ⟨rfl, ?_⟩
    rw [e]
    exact fin_same S h _ (.bl _)
theorem Paired.rev {α β : Type} {R : α → β → Prop} {xs : List α} {ys : List β} (h : Paired R xs ys) : Paired R xs.reverse ys.reverse := by
  induction h with
  | nil => exact .nil
  | cons a t ih => rw [List.reverse_cons, List.reverse_cons]; exact Paired.append ih (.cons a .nil)
end

/-! M36: parts of plain proofs that several laws share -/
def PoolO (o : MO) : Prop := ∃ c s : Int, o = .lst [.d (.int c), .d (.int s)] ∧ 0 ≤ s ∧ s < 2147483647
theorem get_mid {A tl : Sto} {o : MO} {k : Nat} (hk : A.length = k) : (A ++ o :: tl)[k]? = some o := by
  subst hk
  rw [List.getElem?_append_right (Nat.le_refl _), Nat.sub_self]
  rfl
theorem set_mid {A tl : Sto} {o p : MO} {k : Nat} (hk : A.length = k) : (A ++ o :: tl).set k p = A ++ p :: tl := by
  subst hk
  rw [List.set_append_right _ _ (Nat.le_refl _), Nat.sub_self]
  rfl
theorem draw2 {A tl : Sto} {o : MO} {k : Nat} {n : Int} (hk : A.length = k) (P : PoolO o) (hn : 0 < n) (hn2 : n.natAbs < 2 ^ 200) : ∃ d o', gDraw [.ref k, .d (.int n)] (A ++ o :: tl) = .ok (.d (.int d)) (A ++ o' :: tl) ∧ 0 ≤ d ∧ d < n ∧ PoolO o' := by
  obtain ⟨c, s, rfl, h1, h2⟩ := P
  have h := get_mid (tl := tl) (o := .lst [.d (.int c), .d (.int s)]) hk
  have cd : ∀ i : Int, CDivX i n := fun i => ⟨by omega, Nat.lt_trans (log2_small hn2 (by decide)) (by decide)⟩
  generalize hst : A ++ MO.lst [.d (.int c), .d (.int s)] :: tl = st at h
  have i0 : atI [Va.d (.int c), .d (.int s)] 0 = some (.d (.int c)) := rfl
  have i1 : atI [Va.d (.int c), .d (.int s)] 1 = some (.d (.int s)) := rfl
  have x0 : ixN 2 0 = some 0 := rfl
  have x1 : ixN 2 1 = some 1 := rfl
  by_cases hc : 0 < c
  · refine ⟨c.fmod n, .lst [.d (.int (c.fdiv n)), .d (.int s)], ?_, (fmod_pos hn).1, (fmod_pos hn).2, ⟨_, _, rfl, h1, h2⟩⟩
    rw [show A ++ MO.lst [.d (.int (c.fdiv n)), .d (.int s)] :: tl = st.set k (.lst [.d (.int (c.fdiv n)), .d (.int s)]) by rw [← hst, set_mid hk]]
    have a1 := fdiv_ok (i := c) st (cd c)
    have a2 := mod_ok (i := c) (j := n) st (by omega)
    unfold gDraw
    simp only [mFun_eq', mSeq_eq, mIfS, mRet, mRetN, mAsg, mPar, mExpr, mSkip, mBrk, mCnt, mBad, mRaise, outE_ok, outT_ok, outE_er, seqO_nx, seqO_rt, seqO_er, retO_rt, retO_nx, retO_er, Res.bind_ok, Res.bind_er, Res.bind_bad, mVar_0, mVar_s, mVarI_0, mVarI_s, strip_ref, strip_non, strip_bl, strip_int, strip_str, strip_lst, strip_tup, strip_obj, strip_lck, strip_idn, mC, mBin, mUn, mTst, mCB, mCons, mNil, mStar, mAnd, mOr, mAndT, mOrT, mNotT, mIf, mTru, truV, mTup, mLst, ds?, ds?_map, mCall, withD, mFld, getF_o, getF_r, oNeg, oNot, oAbs, oMax, oMin, oI1, oI2, oInt, add_ii, sub_ii, lt_ii, le_ii, gt_ii, ge_ii, eq_ii, ne_ii, gN, gT_tup, gL_lst, gsC_cons, gsN_nil, List.map_cons, List.map_nil, List.length_cons, List.length_nil, List.cons_append, List.nil_append, List.append_nil, List.replicate_zero, List.replicate_succ, List.set_cons_zero, List.set_cons_succ, List.zip_cons_cons, List.zip_nil_right, List.foldl_cons, List.foldl_nil, Option.map_some, Option.map_none, Option.bind_some, Nat.reduceAdd, Nat.reduceSub, Nat.reduceEqDiff, Nat.reduceLT, Nat.reduceLeDiff, String.reduceEq, reduceCtorEq, Int.reduceLT, Int.reduceLE, Int.reduceEq, Int.reduceAdd, Int.reduceSub, Int.reduceNeg, Int.reduceMul, String.reduceBEq, decide_true, decide_false, if_true, if_false, ite_true, ite_false, Bool.false_eq_true, Bool.not_true, Bool.not_false, Bool.true_and, Bool.false_and, Bool.and_true, Bool.and_false, Bool.true_or, Bool.false_or, Bool.or_true, Bool.or_false, mSetI, ix_ref k _ _ _ st h i0, hc, decide_true, a1, a2, h, x0]
    try rfl
  · refine ⟨((((s * 48271 + 11).fmod 2147483647 * (s * 48271 + 11).fmod 2147483647).fmod 2147483629).fdiv 64).fmod n, .lst [.d (.int c), .d (.int ((s * 48271 + 11).fmod 2147483647))], ?_, (fmod_pos hn).1, (fmod_pos hn).2, ⟨c, (s * 48271 + 11).fmod 2147483647, rfl, (fmod_pos (by decide)).1, (fmod_pos (by decide)).2⟩⟩
    rw [show A ++ MO.lst [.d (.int c), .d (.int ((s * 48271 + 11).fmod 2147483647))] :: tl = st.set k (.lst [.d (.int c), .d (.int ((s * 48271 + 11).fmod 2147483647))]) by rw [← hst, set_mid hk]]
    have g1 := fmod_pos (i := s * 48271 + 11) (j := 2147483647) (by decide)
    have a1 := mul_ok (i := s) (j := 48271) st (cmulw (by omega) (by decide))
    have a2 := fun st => mod_ok (i := s * 48271 + 11) (j := 2147483647) st (by decide)
    have a3 := fun st => mul_ok (i := (s * 48271 + 11).fmod 2147483647) (j := (s * 48271 + 11).fmod 2147483647) st (cmulw (by omega) (by omega))
    have a4 := fun i st => mod_ok (i := i) (j := 2147483629) st (by decide)
    have a5 := fun i st => fdiv_ok (i := i) (j := 64) st (cdivx (by decide) (by decide))
    have a6 := fun i st => mod_ok (i := i) (j := n) st (by omega)
    have h' : (st.set k (.lst [.d (.int c), .d (.int ((s * 48271 + 11).fmod 2147483647))]))[k]? = some (.lst [.d (.int c), .d (.int ((s * 48271 + 11).fmod 2147483647))]) := set_get h
    have i2 : atI [Va.d (.int c), .d (.int ((s * 48271 + 11).fmod 2147483647))] 1 = some (.d (.int ((s * 48271 + 11).fmod 2147483647))) := rfl
    unfold gDraw
    simp only [mFun_eq', mSeq_eq, mIfS, mRet, mRetN, mAsg, mPar, mExpr, mSkip, mBrk, mCnt, mBad, mRaise, outE_ok, outT_ok, outE_er, seqO_nx, seqO_rt, seqO_er, retO_rt, retO_nx, retO_er, Res.bind_ok, Res.bind_er, Res.bind_bad, mVar_0, mVar_s, mVarI_0, mVarI_s, strip_ref, strip_non, strip_bl, strip_int, strip_str, strip_lst, strip_tup, strip_obj, strip_lck, strip_idn, mC, mBin, mUn, mTst, mCB, mCons, mNil, mStar, mAnd, mOr, mAndT, mOrT, mNotT, mIf, mTru, truV, mTup, mLst, ds?, ds?_map, mCall, withD, mFld, getF_o, getF_r, oNeg, oNot, oAbs, oMax, oMin, oI1, oI2, oInt, add_ii, sub_ii, lt_ii, le_ii, gt_ii, ge_ii, eq_ii, ne_ii, gN, gT_tup, gL_lst, gsC_cons, gsN_nil, List.map_cons, List.map_nil, List.length_cons, List.length_nil, List.cons_append, List.nil_append, List.append_nil, List.replicate_zero, List.replicate_succ, List.set_cons_zero, List.set_cons_succ, List.zip_cons_cons, List.zip_nil_right, List.foldl_cons, List.foldl_nil, Option.map_some, Option.map_none, Option.bind_some, Nat.reduceAdd, Nat.reduceSub, Nat.reduceEqDiff, Nat.reduceLT, Nat.reduceLeDiff, String.reduceEq, reduceCtorEq, Int.reduceLT, Int.reduceLE, Int.reduceEq, Int.reduceAdd, Int.reduceSub, Int.reduceNeg, Int.reduceMul, String.reduceBEq, decide_true, decide_false, if_true, if_false, ite_true, ite_false, Bool.false_eq_true, Bool.not_true, Bool.not_false, Bool.true_and, Bool.false_and, Bool.and_true, Bool.and_false, Bool.true_or, Bool.false_or, Bool.or_true, Bool.or_false, mSetI, ix_ref k _ _ _ st h i0, ix_ref k _ _ _ st h i1, hc, decide_false, a1, a2, h, x1, ix_ref k _ _ _ _ h' i2, a3, a4, a5, a6]
theorem ints_of {P : Int → Prop} : ∀ {ds : List D}, (∀ y ∈ ds, ∃ f, y = .int f ∧ P f) → ∃ w : List Int, ds = w.map .int ∧ ∀ f ∈ w, P f
  | [], _ => ⟨[], rfl, fun f hf => by cases hf⟩
  | y :: ds, h => by
    obtain ⟨f, rfl, hf⟩ := h y (List.mem_cons_self ..)
    obtain ⟨w, rfl, hw⟩ := ints_of fun z hz => h z (List.mem_cons_of_mem _ hz)
    refine ⟨f :: w, rfl, fun g hg => ?_⟩
    rcases List.mem_cons.mp hg with rfl | hg
    · exact hf
    · exact hw g hg
theorem p18 (st : Sto) : oPow (.d (.int 10)) (.d (.int 18)) st = .ok (.d (.int 1000000000000000000)) st := by
  show (if CPow 10 18 then (Res.ok (.d (.int ((10 : Int) ^ (18 : Int).toNat))) st : Res Va) else .bad) = _
  rw [if_pos ⟨by decide, by decide, by decide⟩]
  rfl
theorem pool2 {ns : List Int} {j : Nat} {st : Sto} (hj : j < 1000) : ∃ o, gPool [.d (.lck ns), .d (.int j)] st = .ok (.ref st.length) (st ++ [o]) ∧ PoolO o := by
  have key : ∀ c : Int, ∃ s : Int, 0 ≤ s ∧ s < 2147483647 ∧ ∀ (ρ0 ρ1 : Option Va) (st : Sto), mAsg (mBin oMod (mBin oPow (mBin oAdd (mBin oAdd (mBin oMod (mCB oInt (mCons (mVar 2) mNil)) (mC (.int 2147483629))) (mBin oMul (mBin oMul (mC (.int 7919)) (mVar 1)) (mVar 1))) (mC (.int 31))) (mC (.int 3))) (mC (.int 2147483647))) (gN 3) [ρ0, some (.d (.int j)), some (.d (.int c)), ρ1] st = .nx [ρ0, some (.d (.int j)), some (.d (.int c)), some (.d (.int s))] st := fun c => by
    have g1 := fmod_pos (i := c) (j := 2147483629) (by decide)
    have hj1 : (7919 * (j : Int)).natAbs < 2 ^ 64 := by omega
    have b1 : (7919 * (j : Int) * j) ≤ 7919 * 1000 * 1000 := by
      have : (7919 * (j : Int)) * j ≤ (7919 * 1000) * 1000 := Int.mul_le_mul (by omega) (by omega) (by omega) (by omega)
      omega
    have b2 : 0 ≤ 7919 * (j : Int) * j := Int.mul_nonneg (by omega) (by omega)
    have a1 := fun st => mod_ok (i := c) (j := 2147483629) st (by decide)
    have a2 := fun st => mul_ok (i := 7919) (j := j) st (cmulw (by decide) (by omega))
    have a3 := fun st => mul_ok (i := 7919 * j) (j := j) st (cmulw hj1 (by omega))
    have a4 : ∀ st, oPow (.d (.int (c.fmod 2147483629 + 7919 * j * j + 31))) (.d (.int 3)) st = .ok (.d (.int ((c.fmod 2147483629 + 7919 * j * j + 31) ^ 3))) st := fun st => if_pos ⟨by decide, by decide, by omega⟩
    have a5 := fun i st => mod_ok (i := i) (j := 2147483647) st (by decide)
    have g2 := fmod_pos (i := (c.fmod 2147483629 + 7919 * j * j + 31) ^ 3) (j := 2147483647) (by decide)
    refine ⟨((c.fmod 2147483629 + 7919 * j * j + 31) ^ 3).fmod 2147483647, g2.1, g2.2, fun ρ0 ρ1 st => ?_⟩
    simp only [mFun_eq', mSeq_eq, mIfS, mRet, mRetN, mAsg, mPar, mExpr, mSkip, mBrk, mCnt, mBad, mRaise, outE_ok, outT_ok, outE_er, seqO_nx, seqO_rt, seqO_er, retO_rt, retO_nx, retO_er, Res.bind_ok, Res.bind_er, Res.bind_bad, mVar_0, mVar_s, mVarI_0, mVarI_s, strip_ref, strip_non, strip_bl, strip_int, strip_str, strip_lst, strip_tup, strip_obj, strip_lck, strip_idn, mC, mBin, mUn, mTst, mCB, mCons, mNil, mStar, mAnd, mOr, mAndT, mOrT, mNotT, mIf, mTru, truV, mTup, mLst, ds?, ds?_map, mCall, withD, mFld, getF_o, getF_r, oNeg, oNot, oAbs, oMax, oMin, oI1, oI2, oInt, add_ii, sub_ii, lt_ii, le_ii, gt_ii, ge_ii, eq_ii, ne_ii, gN, gT_tup, gL_lst, gsC_cons, gsN_nil, List.map_cons, List.map_nil, List.length_cons, List.length_nil, List.cons_append, List.nil_append, List.append_nil, List.replicate_zero, List.replicate_succ, List.set_cons_zero, List.set_cons_succ, List.zip_cons_cons, List.zip_nil_right, List.foldl_cons, List.foldl_nil, Option.map_some, Option.map_none, Option.bind_some, Nat.reduceAdd, Nat.reduceSub, Nat.reduceEqDiff, Nat.reduceLT, Nat.reduceLeDiff, String.reduceEq, reduceCtorEq, Int.reduceLT, Int.reduceLE, Int.reduceEq, Int.reduceAdd, Int.reduceSub, Int.reduceNeg, Int.reduceMul, String.reduceBEq, decide_true, decide_false, if_true, if_false, ite_true, ite_false, Bool.false_eq_true, Bool.not_true, Bool.not_false, Bool.true_and, Bool.false_and, Bool.and_true, Bool.and_false, Bool.true_or, Bool.false_or, Bool.or_true, Bool.or_false, a1, a2, a3, a4, a5]
  have fin : ∀ c : Int, ∃ o, retO (seqO (mSeq (mAsg (mBin oMod (mBin oPow (mBin oAdd (mBin oAdd (mBin oMod (mCB oInt (mCons (mVar 2) mNil)) (mC (.int 2147483629))) (mBin oMul (mBin oMul (mC (.int 7919)) (mVar 1)) (mVar 1))) (mC (.int 31))) (mC (.int 3))) (mC (.int 2147483647))) (gN 3))
      (mSeq (mIfS (mTst (mBin oLt (mVar 2) (mBin oPow (mC (.int 10)) (mC (.int 18))))) (mAsg (mC (.int 0)) (gN 2)) mSkip)
      (mRet (mLstC (mCons (mVar 2) (mCons (mVar 3) mNil))))) [some (.d (.lck ns)), some (.d (.int j)), some (.d (.int c)), none] st) mSkip) = .ok (.ref st.length) (st ++ [o]) ∧ PoolO o := fun c => by
    obtain ⟨s, s1, s2, e⟩ := key c
    rw [mSeq_eq, e, seqO_nx, mSeq_eq]
    by_cases q : c < 1000000000000000000
    · refine ⟨.lst [.d (.int 0), .d (.int s)], ?_, 0, s, rfl, s1, s2⟩
      simp only [mFun_eq', mSeq_eq, mIfS, mRet, mRetN, mAsg, mPar, mExpr, mSkip, mBrk, mCnt, mBad, mRaise, outE_ok, outT_ok, outE_er, seqO_nx, seqO_rt, seqO_er, retO_rt, retO_nx, retO_er, Res.bind_ok, Res.bind_er, Res.bind_bad, mVar_0, mVar_s, mVarI_0, mVarI_s, strip_ref, strip_non, strip_bl, strip_int, strip_str, strip_lst, strip_tup, strip_obj, strip_lck, strip_idn, mC, mBin, mUn, mTst, mCB, mCons, mNil, mStar, mAnd, mOr, mAndT, mOrT, mNotT, mIf, mTru, truV, mTup, mLst, ds?, ds?_map, mCall, withD, mFld, getF_o, getF_r, oNeg, oNot, oAbs, oMax, oMin, oI1, oI2, oInt, add_ii, sub_ii, lt_ii, le_ii, gt_ii, ge_ii, eq_ii, ne_ii, gN, gT_tup, gL_lst, gsC_cons, gsN_nil, List.map_cons, List.map_nil, List.length_cons, List.length_nil, List.cons_append, List.nil_append, List.append_nil, List.replicate_zero, List.replicate_succ, List.set_cons_zero, List.set_cons_succ, List.zip_cons_cons, List.zip_nil_right, List.foldl_cons, List.foldl_nil, Option.map_some, Option.map_none, Option.bind_some, Nat.reduceAdd, Nat.reduceSub, Nat.reduceEqDiff, Nat.reduceLT, Nat.reduceLeDiff, String.reduceEq, reduceCtorEq, Int.reduceLT, Int.reduceLE, Int.reduceEq, Int.reduceAdd, Int.reduceSub, Int.reduceNeg, Int.reduceMul, String.reduceBEq, decide_true, decide_false, if_true, if_false, ite_true, ite_false, Bool.false_eq_true, Bool.not_true, Bool.not_false, Bool.true_and, Bool.false_and, Bool.and_true, Bool.and_false, Bool.true_or, Bool.false_or, Bool.or_true, Bool.or_false, p18, q, decide_true, mLstC]
      rfl
    · refine ⟨.lst [.d (.int c), .d (.int s)], ?_, c, s, rfl, s1, s2⟩
      simp only [mFun_eq', mSeq_eq, mIfS, mRet, mRetN, mAsg, mPar, mExpr, mSkip, mBrk, mCnt, mBad, mRaise, outE_ok, outT_ok, outE_er, seqO_nx, seqO_rt, seqO_er, retO_rt, retO_nx, retO_er, Res.bind_ok, Res.bind_er, Res.bind_bad, mVar_0, mVar_s, mVarI_0, mVarI_s, strip_ref, strip_non, strip_bl, strip_int, strip_str, strip_lst, strip_tup, strip_obj, strip_lck, strip_idn, mC, mBin, mUn, mTst, mCB, mCons, mNil, mStar, mAnd, mOr, mAndT, mOrT, mNotT, mIf, mTru, truV, mTup, mLst, ds?, ds?_map, mCall, withD, mFld, getF_o, getF_r, oNeg, oNot, oAbs, oMax, oMin, oI1, oI2, oInt, add_ii, sub_ii, lt_ii, le_ii, gt_ii, ge_ii, eq_ii, ne_ii, gN, gT_tup, gL_lst, gsC_cons, gsN_nil, List.map_cons, List.map_nil, List.length_cons, List.length_nil, List.cons_append, List.nil_append, List.append_nil, List.replicate_zero, List.replicate_succ, List.set_cons_zero, List.set_cons_succ, List.zip_cons_cons, List.zip_nil_right, List.foldl_cons, List.foldl_nil, Option.map_some, Option.map_none, Option.bind_some, Nat.reduceAdd, Nat.reduceSub, Nat.reduceEqDiff, Nat.reduceLT, Nat.reduceLeDiff, String.reduceEq, reduceCtorEq, Int.reduceLT, Int.reduceLE, Int.reduceEq, Int.reduceAdd, Int.reduceSub, Int.reduceNeg, Int.reduceMul, String.reduceBEq, decide_true, decide_false, if_true, if_false, ite_true, ite_false, Bool.false_eq_true, Bool.not_true, Bool.not_false, Bool.true_and, Bool.false_and, Bool.and_true, Bool.and_false, Bool.true_or, Bool.false_or, Bool.or_true, Bool.or_false, p18, q, decide_false, mLstC]
      rfl
  have sk : ∀ o : Out, retO (seqO o mSkip) = retO o := fun o => by cases o <;> rfl
  unfold gPool
  by_cases q : j < ns.length
  · obtain ⟨st1, h1, h2⟩ := fin ns[j]
    refine ⟨st1, ?_, h2⟩
    rw [← h1, sk, mFun_eq' 2 4 _ _ _ rfl]
    have e1 : oLen [.d (.lck ns)] st = .ok (.d (.int ns.length)) st := rfl
    have e2 : decide ((j : Int) < ns.length) = true := decide_eq_true (by omega)
    have e3 : atI ns (j : Int) = some ns[j] := by
      unfold atI ixN
      rw [if_pos (by omega), if_pos (by omega)]
      show ns[((j : Int).toNat)]? = _
      rw [Int.toNat_natCast, List.getElem?_eq_getElem q]
    simp only [mFun_eq', mSeq_eq, mIfS, mRet, mRetN, mAsg, mPar, mExpr, mSkip, mBrk, mCnt, mBad, mRaise, outE_ok, outT_ok, outE_er, seqO_nx, seqO_rt, seqO_er, retO_rt, retO_nx, retO_er, Res.bind_ok, Res.bind_er, Res.bind_bad, mVar_0, mVar_s, mVarI_0, mVarI_s, strip_ref, strip_non, strip_bl, strip_int, strip_str, strip_lst, strip_tup, strip_obj, strip_lck, strip_idn, mC, mBin, mUn, mTst, mCB, mCons, mNil, mStar, mAnd, mOr, mAndT, mOrT, mNotT, mIf, mTru, truV, mTup, mLst, ds?, ds?_map, mCall, withD, mFld, getF_o, getF_r, oNeg, oNot, oAbs, oMax, oMin, oI1, oI2, oInt, add_ii, sub_ii, lt_ii, le_ii, gt_ii, ge_ii, eq_ii, ne_ii, gN, gT_tup, gL_lst, gsC_cons, gsN_nil, List.map_cons, List.map_nil, List.length_cons, List.length_nil, List.cons_append, List.nil_append, List.append_nil, List.replicate_zero, List.replicate_succ, List.set_cons_zero, List.set_cons_succ, List.zip_cons_cons, List.zip_nil_right, List.foldl_cons, List.foldl_nil, Option.map_some, Option.map_none, Option.bind_some, Nat.reduceAdd, Nat.reduceSub, Nat.reduceEqDiff, Nat.reduceLT, Nat.reduceLeDiff, String.reduceEq, reduceCtorEq, Int.reduceLT, Int.reduceLE, Int.reduceEq, Int.reduceAdd, Int.reduceSub, Int.reduceNeg, Int.reduceMul, String.reduceBEq, decide_true, decide_false, if_true, if_false, ite_true, ite_false, Bool.false_eq_true, Bool.not_true, Bool.not_false, Bool.true_and, Bool.false_and, Bool.and_true, Bool.and_false, Bool.true_or, Bool.false_or, Bool.or_true, Bool.or_false, e1, e2, ix_lck ns _ _ st e3]
  · obtain ⟨st1, h1, h2⟩ := fin 0
    refine ⟨st1, ?_, h2⟩
    rw [← h1, sk, mFun_eq' 2 4 _ _ _ rfl]
    have e1 : oLen [.d (.lck ns)] st = .ok (.d (.int ns.length)) st := rfl
    have e2 : decide ((j : Int) < ns.length) = false := decide_eq_false (by omega)
    simp only [mFun_eq', mSeq_eq, mIfS, mRet, mRetN, mAsg, mPar, mExpr, mSkip, mBrk, mCnt, mBad, mRaise, outE_ok, outT_ok, outE_er, seqO_nx, seqO_rt, seqO_er, retO_rt, retO_nx, retO_er, Res.bind_ok, Res.bind_er, Res.bind_bad, mVar_0, mVar_s, mVarI_0, mVarI_s, strip_ref, strip_non, strip_bl, strip_int, strip_str, strip_lst, strip_tup, strip_obj, strip_lck, strip_idn, mC, mBin, mUn, mTst, mCB, mCons, mNil, mStar, mAnd, mOr, mAndT, mOrT, mNotT, mIf, mTru, truV, mTup, mLst, ds?, ds?_map, mCall, withD, mFld, getF_o, getF_r, oNeg, oNot, oAbs, oMax, oMin, oI1, oI2, oInt, add_ii, sub_ii, lt_ii, le_ii, gt_ii, ge_ii, eq_ii, ne_ii, gN, gT_tup, gL_lst, gsC_cons, gsN_nil, List.map_cons, List.map_nil, List.length_cons, List.length_nil, List.cons_append, List.nil_append, List.append_nil, List.replicate_zero, List.replicate_succ, List.set_cons_zero, List.set_cons_succ, List.zip_cons_cons, List.zip_nil_right, List.foldl_cons, List.foldl_nil, Option.map_some, Option.map_none, Option.bind_some, Nat.reduceAdd, Nat.reduceSub, Nat.reduceEqDiff, Nat.reduceLT, Nat.reduceLeDiff, String.reduceEq, reduceCtorEq, Int.reduceLT, Int.reduceLE, Int.reduceEq, Int.reduceAdd, Int.reduceSub, Int.reduceNeg, Int.reduceMul, String.reduceBEq, decide_true, decide_false, if_true, if_false, ite_true, ite_false, Bool.false_eq_true, Bool.not_true, Bool.not_false, Bool.true_and, Bool.false_and, Bool.and_true, Bool.and_false, Bool.true_or, Bool.false_or, Bool.or_true, Bool.or_false, e1, e2]
theorem forM_pre {α : Type} {g : α → Va} {S : List α → Ev → Sto → Prop} {tg : MG} {b : MS} : ∀ {l pre : List α} {ρ : Ev} {st : Sto}, S pre ρ st →
    (∀ l1 x l2, l = l1 ++ x :: l2 → ∀ ρ st, S (pre ++ l1) ρ st → ∃ ρ1 ρ2 st2, tg (g x) ρ = some ρ1 ∧ b ρ1 st = .nx ρ2 st2 ∧ S (pre ++ l1 ++ [x]) ρ2 st2) →
    ∃ ρ1 st1, forM none tg b (l.map g) ρ st = .nx ρ1 st1 ∧ S (pre ++ l) ρ1 st1
  | [], pre, ρ, st, h, _ => ⟨ρ, st, forM_nil' .., by rw [List.append_nil]; exact h⟩
  | x :: l, pre, ρ, st, h, hb => by
    obtain ⟨ρ1, ρ2, st2, h1, h2, h3⟩ := hb [] x l rfl ρ st (by rw [List.append_nil]; exact h)
    rw [List.append_nil] at h3
    obtain ⟨ρ3, st3, h4, h5⟩ := forM_pre (l := l) (pre := pre ++ [x]) (S := S) (g := g) (tg := tg) (b := b) h3 fun l1 y l2 e ρ st hs => by
      have := hb (x :: l1) y l2 (by rw [e]; rfl) ρ st (by rw [List.append_assoc] at hs; exact hs)
      rw [show pre ++ [x] ++ l1 ++ [y] = pre ++ (x :: l1) ++ [y] by simp]
      exact this
    refine ⟨ρ3, st3, ?_, by rw [List.append_assoc] at h5; exact h5⟩
    rw [List.map_cons, forM_cons', h1]
    simp only [h2, loopO_nx, h4]
theorem mFor_pre {α : Type} {g : α → Va} (S : List α → Ev → Sto → Prop) {mi : MI} {tg : MG} {b : MS} (l : List α) {ρ : Ev} {st st0 : Sto} (h : mi ρ st = .ok ⟨l.map g, none⟩ st0) (hs : S [] ρ st0)
    (hb : ∀ l1 x l2, l = l1 ++ x :: l2 → ∀ ρ st, S l1 ρ st → ∃ ρ1 ρ2 st2, tg (g x) ρ = some ρ1 ∧ b ρ1 st = .nx ρ2 st2 ∧ S (l1 ++ [x]) ρ2 st2) :
    ∃ ρ1 st1, mFor mi tg b ρ st = .nx ρ1 st1 ∧ S l ρ1 st1 := by
  rw [mFor_eq h]
  exact forM_pre (pre := []) hs fun l1 x l2 e ρ st hs => hb l1 x l2 e ρ st hs
abbrev fgD (l : List Int) : D := .tup (l.map .int)
theorem eqvs_int : ∀ (a b : List Int), D.eqvs (a.map .int) (b.map .int) = decide (a = b)
  | [], [] => by simp [D.eqvs]
  | [], _ :: _ => by simp [D.eqvs]
  | _ :: _, [] => by simp [D.eqvs]
  | x :: a, y :: b => by
    rw [List.map_cons, List.map_cons]
    show (D.eqv (.int x) (.int y) && D.eqvs (a.map .int) (b.map .int)) = _
    rw [eqvs_int a b, show D.eqv (.int x) (.int y) = (x == y) from rfl]
    by_cases h : x = y
    · by_cases h2 : a = b <;> simp [h, h2]
    · simp [h]
theorem okds_int (k : Nat) (a : List Int) : okds k (a.map .int) = true := by
  rw [okds_all, List.all_map]
  simp only [List.all_eq_true]
  intro x _
  rfl
theorem okd_tup {k : Nat} {xs : List D} (h : okds k xs = true) : okd (k + 1) (.tup xs) = true := by
  show (decide (k + 1 ≠ 0) && okds k xs) = true
  rw [h]; simp
theorem okd_lst {k : Nat} {xs : List D} (h : okds k xs = true) : okd (k + 1) (.lst xs) = true := by
  show (decide (k + 1 ≠ 0) && okds k xs) = true
  rw [h]; simp
theorem ne_dd {a b : D} (h1 : okd 60 a = true) (h2 : okd 60 b = true) (e1 : strip (.d a) = .d a) (e2 : strip (.d b) = .d b) (st : Sto) : oNe (.d a) (.d b) st = .ok (.d (.bl (!D.eqv a b))) st := by
  unfold oNe oEqN
  rw [e1, e2]
  exact if_pos ⟨h1, h2⟩
theorem eq_dd {a b : D} (h1 : okd 60 a = true) (h2 : okd 60 b = true) (e1 : strip (.d a) = .d a) (e2 : strip (.d b) = .d b) (e3 : sameO (.d a) (.d b) = false) (st : Sto) : oEq (.d a) (.d b) st = .ok (.d (.bl (D.eqv a b))) st := by
  unfold oEq oEqN
  rw [e3, e1, e2, if_neg (by decide)]
  exact if_pos ⟨h1, h2⟩
theorem ne_fg (a b : List Int) (st : Sto) : oNe (.d (fgD a)) (.d (fgD b)) st = .ok (.d (.bl (!decide (a = b)))) st := by
  rw [ne_dd (okd_tup (okds_int 59 a)) (okd_tup (okds_int 59 b)) rfl rfl]
  show Res.ok (Va.d (.bl (!D.eqvs (a.map .int) (b.map .int)))) st = _
  rw [eqvs_int]
theorem ne_fgl (a b : List Int) (st : Sto) : oNe (.d (.lst (a.map .int))) (.d (.lst (b.map .int))) st = .ok (.d (.bl (!decide (a = b)))) st := by
  rw [ne_dd (okd_lst (okds_int 59 a)) (okd_lst (okds_int 59 b)) rfl rfl]
  show Res.ok (Va.d (.bl (!D.eqvs (a.map .int) (b.map .int)))) st = _
  rw [eqvs_int]
theorem eq_fg (a b : List Int) (st : Sto) : oEq (.d (fgD a)) (.d (fgD b)) st = .ok (.d (.bl (decide (a = b)))) st := by
  rw [eq_dd (okd_tup (okds_int 59 a)) (okd_tup (okds_int 59 b)) rfl rfl rfl]
  show Res.ok (Va.d (.bl (D.eqvs (a.map .int) (b.map .int)))) st = _
  rw [eqvs_int]
theorem ne_nil (a : List Int) (st : Sto) : oNe (.d (fgD a)) (.d (.tup [])) st = .ok (.d (.bl (!decide (a = [])))) st := ne_fg a [] st
theorem eq_nil (a : List Int) (st : Sto) : oEq (.d (fgD a)) (.d (.tup [])) st = .ok (.d (.bl (decide (a = [])))) st := eq_fg a [] st
mutual
theorem eqv_self : ∀ {k : Nat} {x : D}, okd k x = true → D.eqv x x = true
  | _, .non, _ => rfl
  | _, .bl b, _ => by simp [D.eqv]
  | _, .int b, _ => by simp [D.eqv]
  | _, .str b, _ => by simp [D.eqv]
  | k, .lst xs, h => eqvs_self (k := k - 1) (Bool.and_eq_true_iff.mp (show (decide (k ≠ 0) && okds (k - 1) xs) = true from h)).2
  | k, .tup xs, h => eqvs_self (k := k - 1) (Bool.and_eq_true_iff.mp (show (decide (k ≠ 0) && okds (k - 1) xs) = true from h)).2
  | _, .obj _ _, h => by cases h
  | _, .dct _, h => by cases h
  | _, .dcn _, h => by cases h
  | _, .cls _, h => by cases h
  | _, .ty _, h => by cases h
  | _, .lck _, h => by cases h
  | _, .exc _ _, h => by cases h
  | _, .idn _ _, h => by cases h
theorem eqvs_self : ∀ {k : Nat} {xs : List D}, okds k xs = true → D.eqvs xs xs = true
  | _, [], _ => rfl
  | k, x :: xs, h => by
    obtain ⟨h1, h2⟩ := Bool.and_eq_true_iff.mp (show (okd k x && okds k xs) = true from h)
    show (D.eqv x x && D.eqvs xs xs) = true
    rw [eqv_self h1, eqvs_self h2]
    rfl
end
theorem ne_self {a : D} (h1 : okd 60 a = true) (e1 : strip (.d a) = .d a) (st : Sto) : oNe (.d a) (.d a) st = .ok (.d (.bl false)) st := by
  rw [ne_dd h1 h1 e1 e1, eqv_self h1]
  rfl
theorem compM_nil' {tg : MG} {tt : MT} {te : ME} {ρ0 : Ev} {st : Sto} : compM none tg tt te ρ0 [] st = .ok [] st := by
  unfold compM
  exact if_pos (show gOk none st from trivial)
theorem compM_cons' {tg : MG} {te : ME} {ρ0 ρ1 : Ev} {x : Va} {xs : List Va} {st : Sto} (h : tg x ρ0 = some ρ1) : compM none tg mYes te ρ0 (x :: xs) st = (noEr (te ρ1 st)).bind fun y st => (compM none tg mYes te ρ0 xs st).bind fun ys st => .ok (y :: ys) st := by
  rw [compM, if_pos (show gOk none st from trivial), h]
  rfl


def top (i : Nat) : Stmt := PySem.Challenge.pw_twodivisions_k30_error_classes.main.body.getD i (.Pass ⟨0, 0, 0, 0⟩)
abbrev s_l_pool : Stmt := (top 33)
abbrev n_l_pool : List Str := ["_law_script", "_law_k", "_law_cell", "_law_seed"]
theorem sc_l_pool : FnScope n_l_pool ["_law_script", "_law_k"] (defScope s_l_pool) := ⟨rfl, rfl, rfl, by decide +kernel, rfl, by decide +kernel, by decide +kernel⟩
abbrev s_l_draw : Stmt := (top 34)
abbrev n_l_draw : List Str := ["_law_pool_here", "_law_many", "_law_digit"]
theorem sc_l_draw : FnScope n_l_draw ["_law_pool_here", "_law_many"] (defScope s_l_draw) := ⟨rfl, rfl, rfl, by decide +kernel, rfl, by decide +kernel, by decide +kernel⟩
abbrev s_l_choose : Stmt := (top 35)
abbrev n_l_choose : List Str := ["_law_pool_here", "_law_items"]
theorem sc_l_choose : FnScope n_l_choose ["_law_pool_here", "_law_items"] (defScope s_l_choose) := ⟨rfl, rfl, rfl, by decide +kernel, rfl, by decide +kernel, by decide +kernel⟩
abbrev s_l_made : Stmt := (top 36)
abbrev n_l_made : List Str := ["_law_held", "_law_found"]
theorem sc_l_made : FnScope n_l_made ["_law_held"] (defScope s_l_made) := ⟨rfl, rfl, rfl, by decide +kernel, rfl, by decide +kernel, by decide +kernel⟩
abbrev s_l_named : Stmt := (top 37)
abbrev n_l_named : List Str := ["_law_held", "_law_found"]
theorem sc_l_named : FnScope n_l_named ["_law_held"] (defScope s_l_named) := ⟨rfl, rfl, rfl, by decide +kernel, rfl, by decide +kernel, by decide +kernel⟩
abbrev s_l_fields : Stmt := (top 38)
abbrev n_l_fields : List Str := ["_law_made_here", "_law_found", "_law_thing"]
theorem sc_l_fields : FnScope n_l_fields ["_law_made_here"] (defScope s_l_fields) := ⟨rfl, rfl, rfl, by decide +kernel, rfl, by decide +kernel, by decide +kernel⟩
abbrev s_l_kinds : Stmt := (top 39)
abbrev n_l_kinds : List Str := ["_law_e", "_law_found"]
theorem sc_l_kinds : FnScope n_l_kinds ["_law_e"] (defScope s_l_kinds) := ⟨rfl, rfl, rfl, by decide +kernel, rfl, by decide +kernel, by decide +kernel⟩
abbrev s_l_bases : Stmt := (top 40)
abbrev n_l_bases : List Str := ["_law_thing", "_law_found"]
theorem sc_l_bases : FnScope n_l_bases ["_law_thing"] (defScope s_l_bases) := ⟨rfl, rfl, rfl, by decide +kernel, rfl, by decide +kernel, by decide +kernel⟩
abbrev s_law : Stmt := (top 41)
abbrev n_law : List Str := ["_law_script", "_law_due", "_law_k", "_law_pool_here", "_law_held", "_law_made_here", "_law_at", "_law_bases_here", "_law_spot"]
theorem sc_law : FnScope n_law ["_law_script"] (defScope s_law) := ⟨rfl, rfl, rfl, by decide +kernel, rfl, by decide +kernel, by decide +kernel⟩
abbrev s_x_InvalidRegisters : Stmt := (inClass (top 5) 0)
abbrev n_x_InvalidRegisters : List Str := ["self", "number"]
theorem sc_x_InvalidRegisters : FnScope n_x_InvalidRegisters ["self", "number"] (defScope s_x_InvalidRegisters) := ⟨rfl, rfl, rfl, by decide +kernel, rfl, by decide +kernel, by decide +kernel⟩
abbrev s_x_InvalidName : Stmt := (inClass (top 4) 0)
abbrev n_x_InvalidName : List Str := ["self", "value"]
theorem sc_x_InvalidName : FnScope n_x_InvalidName ["self", "value"] (defScope s_x_InvalidName) := ⟨rfl, rfl, rfl, by decide +kernel, rfl, by decide +kernel, by decide +kernel⟩
abbrev s_x_InvalidBase : Stmt := (inClass (top 3) 0)
abbrev n_x_InvalidBase : List Str := ["self", "value"]
theorem sc_x_InvalidBase : FnScope n_x_InvalidBase ["self", "value"] (defScope s_x_InvalidBase) := ⟨rfl, rfl, rfl, by decide +kernel, rfl, by decide +kernel, by decide +kernel⟩
abbrev s_x_InvalidNumber : Stmt := (inClass (top 2) 0)
abbrev n_x_InvalidNumber : List Str := ["self", "value"]
theorem sc_x_InvalidNumber : FnScope n_x_InvalidNumber ["self", "value"] (defScope s_x_InvalidNumber) := ⟨rfl, rfl, rfl, by decide +kernel, rfl, by decide +kernel, by decide +kernel⟩
abbrev s_x_InvalidRule : Stmt := (inClass (top 1) 0)
abbrev n_x_InvalidRule : List Str := ["self", "value"]
theorem sc_x_InvalidRule : FnScope n_x_InvalidRule ["self", "value"] (defScope s_x_InvalidRule) := ⟨rfl, rfl, rfl, by decide +kernel, rfl, by decide +kernel, by decide +kernel⟩
abbrev s_x_InvalidResult : Stmt := (inClass (top 9) 0)
abbrev n_x_InvalidResult : List Str := ["self", "value"]
theorem sc_x_InvalidResult : FnScope n_x_InvalidResult ["self", "value"] (defScope s_x_InvalidResult) := ⟨rfl, rfl, rfl, by decide +kernel, rfl, by decide +kernel, by decide +kernel⟩
abbrev s_x_InvalidEnds : Stmt := (inClass (top 8) 0)
abbrev n_x_InvalidEnds : List Str := ["self", "value"]
theorem sc_x_InvalidEnds : FnScope n_x_InvalidEnds ["self", "value"] (defScope s_x_InvalidEnds) := ⟨rfl, rfl, rfl, by decide +kernel, rfl, by decide +kernel, by decide +kernel⟩
abbrev s_x_InvalidRow : Stmt := (inClass (top 7) 0)
abbrev n_x_InvalidRow : List Str := ["self", "mode", "number"]
theorem sc_x_InvalidRow : FnScope n_x_InvalidRow ["self", "mode", "number"] (defScope s_x_InvalidRow) := ⟨rfl, rfl, rfl, by decide +kernel, rfl, by decide +kernel, by decide +kernel⟩
abbrev s_x_InvalidModes : Stmt := (inClass (top 6) 0)
abbrev n_x_InvalidModes : List Str := ["self", "number"]
theorem sc_x_InvalidModes : FnScope n_x_InvalidModes ["self", "number"] (defScope s_x_InvalidModes) := ⟨rfl, rfl, rfl, by decide +kernel, rfl, by decide +kernel, by decide +kernel⟩
abbrev s_x_InvalidText : Stmt := (inClass (top 13) 0)
abbrev n_x_InvalidText : List Str := ["self", "line"]
theorem sc_x_InvalidText : FnScope n_x_InvalidText ["self", "line"] (defScope s_x_InvalidText) := ⟨rfl, rfl, rfl, by decide +kernel, rfl, by decide +kernel, by decide +kernel⟩
abbrev s_x_InvalidState : Stmt := (inClass (top 12) 0)
abbrev n_x_InvalidState : List Str := ["self", "value"]
theorem sc_x_InvalidState : FnScope n_x_InvalidState ["self", "value"] (defScope s_x_InvalidState) := ⟨rfl, rfl, rfl, by decide +kernel, rfl, by decide +kernel, by decide +kernel⟩
abbrev s_x_InvalidFigures : Stmt := (inClass (top 11) 0)
abbrev n_x_InvalidFigures : List Str := ["self", "value"]
theorem sc_x_InvalidFigures : FnScope n_x_InvalidFigures ["self", "value"] (defScope s_x_InvalidFigures) := ⟨rfl, rfl, rfl, by decide +kernel, rfl, by decide +kernel, by decide +kernel⟩
abbrev s_x_InvalidProgram : Stmt := (inClass (top 10) 0)
abbrev n_x_InvalidProgram : List Str := ["self", "value"]
theorem sc_x_InvalidProgram : FnScope n_x_InvalidProgram ["self", "value"] (defScope s_x_InvalidProgram) := ⟨rfl, rfl, rfl, by decide +kernel, rfl, by decide +kernel, by decide +kernel⟩
abbrev s_x_InvalidSign : Stmt := (inClass (top 19) 0)
abbrev n_x_InvalidSign : List Str := ["self", "value"]
theorem sc_x_InvalidSign : FnScope n_x_InvalidSign ["self", "value"] (defScope s_x_InvalidSign) := ⟨rfl, rfl, rfl, by decide +kernel, rfl, by decide +kernel, by decide +kernel⟩
abbrev s_x_InvalidForm : Stmt := (inClass (top 16) 0)
abbrev n_x_InvalidForm : List Str := ["self", "value"]
theorem sc_x_InvalidForm : FnScope n_x_InvalidForm ["self", "value"] (defScope s_x_InvalidForm) := ⟨rfl, rfl, rfl, by decide +kernel, rfl, by decide +kernel, by decide +kernel⟩
abbrev s_x_InvalidRows : Stmt := (inClass (top 15) 0)
abbrev n_x_InvalidRows : List Str := ["self", "value"]
theorem sc_x_InvalidRows : FnScope n_x_InvalidRows ["self", "value"] (defScope s_x_InvalidRows) := ⟨rfl, rfl, rfl, by decide +kernel, rfl, by decide +kernel, by decide +kernel⟩
abbrev s_x_InvalidRatio : Stmt := (inClass (top 14) 0)
abbrev n_x_InvalidRatio : List Str := ["self", "value"]
theorem sc_x_InvalidRatio : FnScope n_x_InvalidRatio ["self", "value"] (defScope s_x_InvalidRatio) := ⟨rfl, rfl, rfl, by decide +kernel, rfl, by decide +kernel, by decide +kernel⟩
abbrev s_x_UnknownName : Stmt := (inClass (top 21) 0)
abbrev n_x_UnknownName : List Str := ["self", "value"]
theorem sc_x_UnknownName : FnScope n_x_UnknownName ["self", "value"] (defScope s_x_UnknownName) := ⟨rfl, rfl, rfl, by decide +kernel, rfl, by decide +kernel, by decide +kernel⟩
abbrev s_x_InvalidCommand : Stmt := (inClass (top 18) 0)
abbrev n_x_InvalidCommand : List Str := ["self", "word"]
theorem sc_x_InvalidCommand : FnScope n_x_InvalidCommand ["self", "word"] (defScope s_x_InvalidCommand) := ⟨rfl, rfl, rfl, by decide +kernel, rfl, by decide +kernel, by decide +kernel⟩
abbrev s_x_InvalidPieces : Stmt := (inClass (top 17) 0)
abbrev n_x_InvalidPieces : List Str := ["self", "number"]
theorem sc_x_InvalidPieces : FnScope n_x_InvalidPieces ["self", "number"] (defScope s_x_InvalidPieces) := ⟨rfl, rfl, rfl, by decide +kernel, rfl, by decide +kernel, by decide +kernel⟩
abbrev s_x_InvalidMachine : Stmt := (inClass (top 20) 0)
abbrev n_x_InvalidMachine : List Str := ["self", "value"]
theorem sc_x_InvalidMachine : FnScope n_x_InvalidMachine ["self", "value"] (defScope s_x_InvalidMachine) := ⟨rfl, rfl, rfl, by decide +kernel, rfl, by decide +kernel, by decide +kernel⟩
abbrev s_x_Broken : Stmt := (inClass (top 26) 0)
abbrev n_x_Broken : List Str := ["self", "number"]
theorem sc_x_Broken : FnScope n_x_Broken ["self", "number"] (defScope s_x_Broken) := ⟨rfl, rfl, rfl, by decide +kernel, rfl, by decide +kernel, by decide +kernel⟩
abbrev s_x_Unlike : Stmt := (inClass (top 25) 0)
abbrev n_x_Unlike : List Str := ["self", "one", "other"]
theorem sc_x_Unlike : FnScope n_x_Unlike ["self", "one", "other"] (defScope s_x_Unlike) := ⟨rfl, rfl, rfl, by decide +kernel, rfl, by decide +kernel, by decide +kernel⟩
abbrev s_x_Parted : Stmt := (inClass (top 24) 0)
abbrev n_x_Parted : List Str := ["self", "number"]
theorem sc_x_Parted : FnScope n_x_Parted ["self", "number"] (defScope s_x_Parted) := ⟨rfl, rfl, rfl, by decide +kernel, rfl, by decide +kernel, by decide +kernel⟩
abbrev s_x_DivisionByZero : Stmt := (inClass (top 23) 0)
abbrev n_x_DivisionByZero : List Str := ["self"]
theorem sc_x_DivisionByZero : FnScope n_x_DivisionByZero ["self"] (defScope s_x_DivisionByZero) := ⟨rfl, rfl, rfl, by decide +kernel, rfl, by decide +kernel, by decide +kernel⟩
abbrev s_x_Endless : Stmt := (inClass (top 22) 0)
abbrev n_x_Endless : List Str := ["self", "number"]
theorem sc_x_Endless : FnScope n_x_Endless ["self", "number"] (defScope s_x_Endless) := ⟨rfl, rfl, rfl, by decide +kernel, rfl, by decide +kernel, by decide +kernel⟩
abbrev s_x_LimitExceeded : Stmt := (inClass (top 31) 0)
abbrev n_x_LimitExceeded : List Str := ["self", "most"]
theorem sc_x_LimitExceeded : FnScope n_x_LimitExceeded ["self", "most"] (defScope s_x_LimitExceeded) := ⟨rfl, rfl, rfl, by decide +kernel, rfl, by decide +kernel, by decide +kernel⟩
abbrev s_x_NoTrial : Stmt := (inClass (top 30) 0)
abbrev n_x_NoTrial : List Str := ["self"]
theorem sc_x_NoTrial : FnScope n_x_NoTrial ["self"] (defScope s_x_NoTrial) := ⟨rfl, rfl, rfl, by decide +kernel, rfl, by decide +kernel, by decide +kernel⟩
abbrev s_x_NothingToRedo : Stmt := (inClass (top 29) 0)
abbrev n_x_NothingToRedo : List Str := ["self"]
theorem sc_x_NothingToRedo : FnScope n_x_NothingToRedo ["self"] (defScope s_x_NothingToRedo) := ⟨rfl, rfl, rfl, by decide +kernel, rfl, by decide +kernel, by decide +kernel⟩
abbrev s_x_NothingToUndo : Stmt := (inClass (top 28) 0)
abbrev n_x_NothingToUndo : List Str := ["self"]
theorem sc_x_NothingToUndo : FnScope n_x_NothingToUndo ["self"] (defScope s_x_NothingToUndo) := ⟨rfl, rfl, rfl, by decide +kernel, rfl, by decide +kernel, by decide +kernel⟩
abbrev s_x_Guarded : Stmt := (inClass (top 27) 0)
abbrev n_x_Guarded : List Str := ["self", "condition", "number"]
theorem sc_x_Guarded : FnScope n_x_Guarded ["self", "condition", "number"] (defScope s_x_Guarded) := ⟨rfl, rfl, rfl, by decide +kernel, rfl, by decide +kernel, by decide +kernel⟩
def tab : Tab where
  cs := []
  fl := []
  xs := []
  xf := []
  bl := ["len", "int", "isinstance", "ArithmeticError", "LookupError", "ValueError", "OverflowError", "RuntimeError", "min", "max", "range", "repr"]
  gl := ["_law_draw", "InvalidRegisters", "InvalidName", "InvalidBase", "InvalidNumber", "InvalidRule", "InvalidResult", "InvalidEnds", "InvalidRow", "InvalidModes", "InvalidText", "InvalidState", "InvalidFigures", "InvalidProgram", "InvalidSign", "InvalidForm", "InvalidRows", "InvalidRatio", "UnknownName", "InvalidCommand", "InvalidPieces", "InvalidMachine", "Broken", "Unlike", "Parted", "DivisionByZero", "Endless", "LimitExceeded", "NoTrial", "NothingToRedo", "NothingToUndo", "Guarded", "_law_pool", "_law_choose", "_law_named", "_law_made", "_law_fields", "_law_bases", "_law_kinds", "law"]
  me := []
  ms := []
  pr := []
def exvL : List String := ["InvalidRule", "InvalidNumber", "InvalidBase", "InvalidName", "InvalidRegisters", "InvalidModes", "InvalidRow", "InvalidEnds", "InvalidResult", "InvalidProgram", "InvalidFigures", "InvalidState", "InvalidText", "InvalidRatio", "InvalidRows", "InvalidForm", "InvalidPieces", "InvalidCommand", "InvalidSign", "InvalidMachine", "UnknownName", "Endless", "DivisionByZero", "Parted", "Unlike", "Broken", "Guarded", "NothingToUndo", "NothingToRedo", "NoTrial", "LimitExceeded"]
abbrev isl_InvalidBase : List (String × Bool) := [("InvalidRule", false), ("InvalidNumber", false), ("InvalidBase", true), ("InvalidName", false), ("InvalidRegisters", false), ("InvalidModes", false), ("InvalidRow", false), ("InvalidEnds", false), ("InvalidResult", false), ("InvalidProgram", false), ("InvalidFigures", false), ("InvalidState", false), ("InvalidText", false), ("InvalidRatio", false), ("InvalidRows", false), ("InvalidForm", false), ("InvalidPieces", false), ("InvalidCommand", false), ("InvalidSign", false), ("InvalidMachine", false), ("UnknownName", false), ("Endless", false), ("DivisionByZero", false), ("Parted", false), ("Unlike", false), ("Broken", false), ("Guarded", false), ("NothingToUndo", false), ("NothingToRedo", false), ("NoTrial", false), ("LimitExceeded", false)]
abbrev isl_InvalidNumber : List (String × Bool) := [("InvalidRule", false), ("InvalidNumber", true), ("InvalidBase", false), ("InvalidName", false), ("InvalidRegisters", false), ("InvalidModes", false), ("InvalidRow", false), ("InvalidEnds", false), ("InvalidResult", false), ("InvalidProgram", false), ("InvalidFigures", false), ("InvalidState", false), ("InvalidText", false), ("InvalidRatio", false), ("InvalidRows", false), ("InvalidForm", false), ("InvalidPieces", false), ("InvalidCommand", false), ("InvalidSign", false), ("InvalidMachine", false), ("UnknownName", false), ("Endless", false), ("DivisionByZero", false), ("Parted", false), ("Unlike", false), ("Broken", false), ("Guarded", false), ("NothingToUndo", false), ("NothingToRedo", false), ("NoTrial", false), ("LimitExceeded", false)]
abbrev isl_InvalidRule : List (String × Bool) := [("InvalidRule", true), ("InvalidNumber", false), ("InvalidBase", false), ("InvalidName", false), ("InvalidRegisters", false), ("InvalidModes", false), ("InvalidRow", false), ("InvalidEnds", false), ("InvalidResult", false), ("InvalidProgram", false), ("InvalidFigures", false), ("InvalidState", false), ("InvalidText", false), ("InvalidRatio", false), ("InvalidRows", false), ("InvalidForm", false), ("InvalidPieces", false), ("InvalidCommand", false), ("InvalidSign", false), ("InvalidMachine", false), ("UnknownName", false), ("Endless", false), ("DivisionByZero", false), ("Parted", false), ("Unlike", false), ("Broken", false), ("Guarded", false), ("NothingToUndo", false), ("NothingToRedo", false), ("NoTrial", false), ("LimitExceeded", false)]
abbrev isl_InvalidModes : List (String × Bool) := [("InvalidRule", false), ("InvalidNumber", false), ("InvalidBase", false), ("InvalidName", false), ("InvalidRegisters", false), ("InvalidModes", true), ("InvalidRow", false), ("InvalidEnds", false), ("InvalidResult", false), ("InvalidProgram", false), ("InvalidFigures", false), ("InvalidState", false), ("InvalidText", false), ("InvalidRatio", false), ("InvalidRows", false), ("InvalidForm", false), ("InvalidPieces", false), ("InvalidCommand", false), ("InvalidSign", false), ("InvalidMachine", false), ("UnknownName", false), ("Endless", false), ("DivisionByZero", false), ("Parted", false), ("Unlike", false), ("Broken", false), ("Guarded", false), ("NothingToUndo", false), ("NothingToRedo", false), ("NoTrial", false), ("LimitExceeded", false)]
abbrev isl_InvalidRegisters : List (String × Bool) := [("InvalidRule", false), ("InvalidNumber", false), ("InvalidBase", false), ("InvalidName", false), ("InvalidRegisters", true), ("InvalidModes", false), ("InvalidRow", false), ("InvalidEnds", false), ("InvalidResult", false), ("InvalidProgram", false), ("InvalidFigures", false), ("InvalidState", false), ("InvalidText", false), ("InvalidRatio", false), ("InvalidRows", false), ("InvalidForm", false), ("InvalidPieces", false), ("InvalidCommand", false), ("InvalidSign", false), ("InvalidMachine", false), ("UnknownName", false), ("Endless", false), ("DivisionByZero", false), ("Parted", false), ("Unlike", false), ("Broken", false), ("Guarded", false), ("NothingToUndo", false), ("NothingToRedo", false), ("NoTrial", false), ("LimitExceeded", false)]
abbrev isl_InvalidName : List (String × Bool) := [("InvalidRule", false), ("InvalidNumber", false), ("InvalidBase", false), ("InvalidName", true), ("InvalidRegisters", false), ("InvalidModes", false), ("InvalidRow", false), ("InvalidEnds", false), ("InvalidResult", false), ("InvalidProgram", false), ("InvalidFigures", false), ("InvalidState", false), ("InvalidText", false), ("InvalidRatio", false), ("InvalidRows", false), ("InvalidForm", false), ("InvalidPieces", false), ("InvalidCommand", false), ("InvalidSign", false), ("InvalidMachine", false), ("UnknownName", false), ("Endless", false), ("DivisionByZero", false), ("Parted", false), ("Unlike", false), ("Broken", false), ("Guarded", false), ("NothingToUndo", false), ("NothingToRedo", false), ("NoTrial", false), ("LimitExceeded", false)]
abbrev isl_InvalidResult : List (String × Bool) := [("InvalidRule", false), ("InvalidNumber", false), ("InvalidBase", false), ("InvalidName", false), ("InvalidRegisters", false), ("InvalidModes", false), ("InvalidRow", false), ("InvalidEnds", false), ("InvalidResult", true), ("InvalidProgram", false), ("InvalidFigures", false), ("InvalidState", false), ("InvalidText", false), ("InvalidRatio", false), ("InvalidRows", false), ("InvalidForm", false), ("InvalidPieces", false), ("InvalidCommand", false), ("InvalidSign", false), ("InvalidMachine", false), ("UnknownName", false), ("Endless", false), ("DivisionByZero", false), ("Parted", false), ("Unlike", false), ("Broken", false), ("Guarded", false), ("NothingToUndo", false), ("NothingToRedo", false), ("NoTrial", false), ("LimitExceeded", false)]
abbrev isl_InvalidEnds : List (String × Bool) := [("InvalidRule", false), ("InvalidNumber", false), ("InvalidBase", false), ("InvalidName", false), ("InvalidRegisters", false), ("InvalidModes", false), ("InvalidRow", false), ("InvalidEnds", true), ("InvalidResult", false), ("InvalidProgram", false), ("InvalidFigures", false), ("InvalidState", false), ("InvalidText", false), ("InvalidRatio", false), ("InvalidRows", false), ("InvalidForm", false), ("InvalidPieces", false), ("InvalidCommand", false), ("InvalidSign", false), ("InvalidMachine", false), ("UnknownName", false), ("Endless", false), ("DivisionByZero", false), ("Parted", false), ("Unlike", false), ("Broken", false), ("Guarded", false), ("NothingToUndo", false), ("NothingToRedo", false), ("NoTrial", false), ("LimitExceeded", false)]
abbrev isl_InvalidRow : List (String × Bool) := [("InvalidRule", false), ("InvalidNumber", false), ("InvalidBase", false), ("InvalidName", false), ("InvalidRegisters", false), ("InvalidModes", false), ("InvalidRow", true), ("InvalidEnds", false), ("InvalidResult", false), ("InvalidProgram", false), ("InvalidFigures", false), ("InvalidState", false), ("InvalidText", false), ("InvalidRatio", false), ("InvalidRows", false), ("InvalidForm", false), ("InvalidPieces", false), ("InvalidCommand", false), ("InvalidSign", false), ("InvalidMachine", false), ("UnknownName", false), ("Endless", false), ("DivisionByZero", false), ("Parted", false), ("Unlike", false), ("Broken", false), ("Guarded", false), ("NothingToUndo", false), ("NothingToRedo", false), ("NoTrial", false), ("LimitExceeded", false)]
abbrev isl_InvalidState : List (String × Bool) := [("InvalidRule", false), ("InvalidNumber", false), ("InvalidBase", false), ("InvalidName", false), ("InvalidRegisters", false), ("InvalidModes", false), ("InvalidRow", false), ("InvalidEnds", false), ("InvalidResult", false), ("InvalidProgram", false), ("InvalidFigures", false), ("InvalidState", true), ("InvalidText", false), ("InvalidRatio", false), ("InvalidRows", false), ("InvalidForm", false), ("InvalidPieces", false), ("InvalidCommand", false), ("InvalidSign", false), ("InvalidMachine", false), ("UnknownName", false), ("Endless", false), ("DivisionByZero", false), ("Parted", false), ("Unlike", false), ("Broken", false), ("Guarded", false), ("NothingToUndo", false), ("NothingToRedo", false), ("NoTrial", false), ("LimitExceeded", false)]
abbrev isl_InvalidFigures : List (String × Bool) := [("InvalidRule", false), ("InvalidNumber", false), ("InvalidBase", false), ("InvalidName", false), ("InvalidRegisters", false), ("InvalidModes", false), ("InvalidRow", false), ("InvalidEnds", false), ("InvalidResult", false), ("InvalidProgram", false), ("InvalidFigures", true), ("InvalidState", false), ("InvalidText", false), ("InvalidRatio", false), ("InvalidRows", false), ("InvalidForm", false), ("InvalidPieces", false), ("InvalidCommand", false), ("InvalidSign", false), ("InvalidMachine", false), ("UnknownName", false), ("Endless", false), ("DivisionByZero", false), ("Parted", false), ("Unlike", false), ("Broken", false), ("Guarded", false), ("NothingToUndo", false), ("NothingToRedo", false), ("NoTrial", false), ("LimitExceeded", false)]
abbrev isl_InvalidProgram : List (String × Bool) := [("InvalidRule", false), ("InvalidNumber", false), ("InvalidBase", false), ("InvalidName", false), ("InvalidRegisters", false), ("InvalidModes", false), ("InvalidRow", false), ("InvalidEnds", false), ("InvalidResult", false), ("InvalidProgram", true), ("InvalidFigures", false), ("InvalidState", false), ("InvalidText", false), ("InvalidRatio", false), ("InvalidRows", false), ("InvalidForm", false), ("InvalidPieces", false), ("InvalidCommand", false), ("InvalidSign", false), ("InvalidMachine", false), ("UnknownName", false), ("Endless", false), ("DivisionByZero", false), ("Parted", false), ("Unlike", false), ("Broken", false), ("Guarded", false), ("NothingToUndo", false), ("NothingToRedo", false), ("NoTrial", false), ("LimitExceeded", false)]
abbrev isl_InvalidRows : List (String × Bool) := [("InvalidRule", false), ("InvalidNumber", false), ("InvalidBase", false), ("InvalidName", false), ("InvalidRegisters", false), ("InvalidModes", false), ("InvalidRow", false), ("InvalidEnds", false), ("InvalidResult", false), ("InvalidProgram", false), ("InvalidFigures", false), ("InvalidState", false), ("InvalidText", false), ("InvalidRatio", false), ("InvalidRows", true), ("InvalidForm", false), ("InvalidPieces", false), ("InvalidCommand", false), ("InvalidSign", false), ("InvalidMachine", false), ("UnknownName", false), ("Endless", false), ("DivisionByZero", false), ("Parted", false), ("Unlike", false), ("Broken", false), ("Guarded", false), ("NothingToUndo", false), ("NothingToRedo", false), ("NoTrial", false), ("LimitExceeded", false)]
abbrev isl_InvalidRatio : List (String × Bool) := [("InvalidRule", false), ("InvalidNumber", false), ("InvalidBase", false), ("InvalidName", false), ("InvalidRegisters", false), ("InvalidModes", false), ("InvalidRow", false), ("InvalidEnds", false), ("InvalidResult", false), ("InvalidProgram", false), ("InvalidFigures", false), ("InvalidState", false), ("InvalidText", false), ("InvalidRatio", true), ("InvalidRows", false), ("InvalidForm", false), ("InvalidPieces", false), ("InvalidCommand", false), ("InvalidSign", false), ("InvalidMachine", false), ("UnknownName", false), ("Endless", false), ("DivisionByZero", false), ("Parted", false), ("Unlike", false), ("Broken", false), ("Guarded", false), ("NothingToUndo", false), ("NothingToRedo", false), ("NoTrial", false), ("LimitExceeded", false)]
abbrev isl_InvalidText : List (String × Bool) := [("InvalidRule", false), ("InvalidNumber", false), ("InvalidBase", false), ("InvalidName", false), ("InvalidRegisters", false), ("InvalidModes", false), ("InvalidRow", false), ("InvalidEnds", false), ("InvalidResult", false), ("InvalidProgram", false), ("InvalidFigures", false), ("InvalidState", false), ("InvalidText", true), ("InvalidRatio", false), ("InvalidRows", false), ("InvalidForm", false), ("InvalidPieces", false), ("InvalidCommand", false), ("InvalidSign", false), ("InvalidMachine", false), ("UnknownName", false), ("Endless", false), ("DivisionByZero", false), ("Parted", false), ("Unlike", false), ("Broken", false), ("Guarded", false), ("NothingToUndo", false), ("NothingToRedo", false), ("NoTrial", false), ("LimitExceeded", false)]
abbrev isl_InvalidMachine : List (String × Bool) := [("InvalidRule", false), ("InvalidNumber", false), ("InvalidBase", false), ("InvalidName", false), ("InvalidRegisters", false), ("InvalidModes", false), ("InvalidRow", false), ("InvalidEnds", false), ("InvalidResult", false), ("InvalidProgram", false), ("InvalidFigures", false), ("InvalidState", false), ("InvalidText", false), ("InvalidRatio", false), ("InvalidRows", false), ("InvalidForm", false), ("InvalidPieces", false), ("InvalidCommand", false), ("InvalidSign", false), ("InvalidMachine", true), ("UnknownName", false), ("Endless", false), ("DivisionByZero", false), ("Parted", false), ("Unlike", false), ("Broken", false), ("Guarded", false), ("NothingToUndo", false), ("NothingToRedo", false), ("NoTrial", false), ("LimitExceeded", false)]
abbrev isl_InvalidSign : List (String × Bool) := [("InvalidRule", false), ("InvalidNumber", false), ("InvalidBase", false), ("InvalidName", false), ("InvalidRegisters", false), ("InvalidModes", false), ("InvalidRow", false), ("InvalidEnds", false), ("InvalidResult", false), ("InvalidProgram", false), ("InvalidFigures", false), ("InvalidState", false), ("InvalidText", false), ("InvalidRatio", false), ("InvalidRows", false), ("InvalidForm", false), ("InvalidPieces", false), ("InvalidCommand", false), ("InvalidSign", true), ("InvalidMachine", false), ("UnknownName", false), ("Endless", false), ("DivisionByZero", false), ("Parted", false), ("Unlike", false), ("Broken", false), ("Guarded", false), ("NothingToUndo", false), ("NothingToRedo", false), ("NoTrial", false), ("LimitExceeded", false)]
abbrev isl_InvalidForm : List (String × Bool) := [("InvalidRule", false), ("InvalidNumber", false), ("InvalidBase", false), ("InvalidName", false), ("InvalidRegisters", false), ("InvalidModes", false), ("InvalidRow", false), ("InvalidEnds", false), ("InvalidResult", false), ("InvalidProgram", false), ("InvalidFigures", false), ("InvalidState", false), ("InvalidText", false), ("InvalidRatio", false), ("InvalidRows", false), ("InvalidForm", true), ("InvalidPieces", false), ("InvalidCommand", false), ("InvalidSign", false), ("InvalidMachine", false), ("UnknownName", false), ("Endless", false), ("DivisionByZero", false), ("Parted", false), ("Unlike", false), ("Broken", false), ("Guarded", false), ("NothingToUndo", false), ("NothingToRedo", false), ("NoTrial", false), ("LimitExceeded", false)]
abbrev isl_UnknownName : List (String × Bool) := [("InvalidRule", false), ("InvalidNumber", false), ("InvalidBase", false), ("InvalidName", false), ("InvalidRegisters", false), ("InvalidModes", false), ("InvalidRow", false), ("InvalidEnds", false), ("InvalidResult", false), ("InvalidProgram", false), ("InvalidFigures", false), ("InvalidState", false), ("InvalidText", false), ("InvalidRatio", false), ("InvalidRows", false), ("InvalidForm", false), ("InvalidPieces", false), ("InvalidCommand", false), ("InvalidSign", false), ("InvalidMachine", false), ("UnknownName", true), ("Endless", false), ("DivisionByZero", false), ("Parted", false), ("Unlike", false), ("Broken", false), ("Guarded", false), ("NothingToUndo", false), ("NothingToRedo", false), ("NoTrial", false), ("LimitExceeded", false)]
abbrev isl_InvalidCommand : List (String × Bool) := [("InvalidRule", false), ("InvalidNumber", false), ("InvalidBase", false), ("InvalidName", false), ("InvalidRegisters", false), ("InvalidModes", false), ("InvalidRow", false), ("InvalidEnds", false), ("InvalidResult", false), ("InvalidProgram", false), ("InvalidFigures", false), ("InvalidState", false), ("InvalidText", false), ("InvalidRatio", false), ("InvalidRows", false), ("InvalidForm", false), ("InvalidPieces", false), ("InvalidCommand", true), ("InvalidSign", false), ("InvalidMachine", false), ("UnknownName", false), ("Endless", false), ("DivisionByZero", false), ("Parted", false), ("Unlike", false), ("Broken", false), ("Guarded", false), ("NothingToUndo", false), ("NothingToRedo", false), ("NoTrial", false), ("LimitExceeded", false)]
abbrev isl_InvalidPieces : List (String × Bool) := [("InvalidRule", false), ("InvalidNumber", false), ("InvalidBase", false), ("InvalidName", false), ("InvalidRegisters", false), ("InvalidModes", false), ("InvalidRow", false), ("InvalidEnds", false), ("InvalidResult", false), ("InvalidProgram", false), ("InvalidFigures", false), ("InvalidState", false), ("InvalidText", false), ("InvalidRatio", false), ("InvalidRows", false), ("InvalidForm", false), ("InvalidPieces", true), ("InvalidCommand", false), ("InvalidSign", false), ("InvalidMachine", false), ("UnknownName", false), ("Endless", false), ("DivisionByZero", false), ("Parted", false), ("Unlike", false), ("Broken", false), ("Guarded", false), ("NothingToUndo", false), ("NothingToRedo", false), ("NoTrial", false), ("LimitExceeded", false)]
abbrev isl_Parted : List (String × Bool) := [("InvalidRule", false), ("InvalidNumber", false), ("InvalidBase", false), ("InvalidName", false), ("InvalidRegisters", false), ("InvalidModes", false), ("InvalidRow", false), ("InvalidEnds", false), ("InvalidResult", false), ("InvalidProgram", false), ("InvalidFigures", false), ("InvalidState", false), ("InvalidText", false), ("InvalidRatio", false), ("InvalidRows", false), ("InvalidForm", false), ("InvalidPieces", false), ("InvalidCommand", false), ("InvalidSign", false), ("InvalidMachine", false), ("UnknownName", false), ("Endless", false), ("DivisionByZero", false), ("Parted", true), ("Unlike", false), ("Broken", false), ("Guarded", false), ("NothingToUndo", false), ("NothingToRedo", false), ("NoTrial", false), ("LimitExceeded", false)]
abbrev isl_DivisionByZero : List (String × Bool) := [("InvalidRule", false), ("InvalidNumber", false), ("InvalidBase", false), ("InvalidName", false), ("InvalidRegisters", false), ("InvalidModes", false), ("InvalidRow", false), ("InvalidEnds", false), ("InvalidResult", false), ("InvalidProgram", false), ("InvalidFigures", false), ("InvalidState", false), ("InvalidText", false), ("InvalidRatio", false), ("InvalidRows", false), ("InvalidForm", false), ("InvalidPieces", false), ("InvalidCommand", false), ("InvalidSign", false), ("InvalidMachine", false), ("UnknownName", false), ("Endless", false), ("DivisionByZero", true), ("Parted", false), ("Unlike", false), ("Broken", false), ("Guarded", false), ("NothingToUndo", false), ("NothingToRedo", false), ("NoTrial", false), ("LimitExceeded", false)]
abbrev isl_Endless : List (String × Bool) := [("InvalidRule", false), ("InvalidNumber", false), ("InvalidBase", false), ("InvalidName", false), ("InvalidRegisters", false), ("InvalidModes", false), ("InvalidRow", false), ("InvalidEnds", false), ("InvalidResult", false), ("InvalidProgram", false), ("InvalidFigures", false), ("InvalidState", false), ("InvalidText", false), ("InvalidRatio", false), ("InvalidRows", false), ("InvalidForm", false), ("InvalidPieces", false), ("InvalidCommand", false), ("InvalidSign", false), ("InvalidMachine", false), ("UnknownName", false), ("Endless", true), ("DivisionByZero", false), ("Parted", false), ("Unlike", false), ("Broken", false), ("Guarded", false), ("NothingToUndo", false), ("NothingToRedo", false), ("NoTrial", false), ("LimitExceeded", false)]
abbrev isl_Guarded : List (String × Bool) := [("InvalidRule", false), ("InvalidNumber", false), ("InvalidBase", false), ("InvalidName", false), ("InvalidRegisters", false), ("InvalidModes", false), ("InvalidRow", false), ("InvalidEnds", false), ("InvalidResult", false), ("InvalidProgram", false), ("InvalidFigures", false), ("InvalidState", false), ("InvalidText", false), ("InvalidRatio", false), ("InvalidRows", false), ("InvalidForm", false), ("InvalidPieces", false), ("InvalidCommand", false), ("InvalidSign", false), ("InvalidMachine", false), ("UnknownName", false), ("Endless", false), ("DivisionByZero", false), ("Parted", false), ("Unlike", false), ("Broken", false), ("Guarded", true), ("NothingToUndo", false), ("NothingToRedo", false), ("NoTrial", false), ("LimitExceeded", false)]
abbrev isl_Broken : List (String × Bool) := [("InvalidRule", false), ("InvalidNumber", false), ("InvalidBase", false), ("InvalidName", false), ("InvalidRegisters", false), ("InvalidModes", false), ("InvalidRow", false), ("InvalidEnds", false), ("InvalidResult", false), ("InvalidProgram", false), ("InvalidFigures", false), ("InvalidState", false), ("InvalidText", false), ("InvalidRatio", false), ("InvalidRows", false), ("InvalidForm", false), ("InvalidPieces", false), ("InvalidCommand", false), ("InvalidSign", false), ("InvalidMachine", false), ("UnknownName", false), ("Endless", false), ("DivisionByZero", false), ("Parted", false), ("Unlike", false), ("Broken", true), ("Guarded", false), ("NothingToUndo", false), ("NothingToRedo", false), ("NoTrial", false), ("LimitExceeded", false)]
abbrev isl_Unlike : List (String × Bool) := [("InvalidRule", false), ("InvalidNumber", false), ("InvalidBase", false), ("InvalidName", false), ("InvalidRegisters", false), ("InvalidModes", false), ("InvalidRow", false), ("InvalidEnds", false), ("InvalidResult", false), ("InvalidProgram", false), ("InvalidFigures", false), ("InvalidState", false), ("InvalidText", false), ("InvalidRatio", false), ("InvalidRows", false), ("InvalidForm", false), ("InvalidPieces", false), ("InvalidCommand", false), ("InvalidSign", false), ("InvalidMachine", false), ("UnknownName", false), ("Endless", false), ("DivisionByZero", false), ("Parted", false), ("Unlike", true), ("Broken", false), ("Guarded", false), ("NothingToUndo", false), ("NothingToRedo", false), ("NoTrial", false), ("LimitExceeded", false)]
abbrev isl_NoTrial : List (String × Bool) := [("InvalidRule", false), ("InvalidNumber", false), ("InvalidBase", false), ("InvalidName", false), ("InvalidRegisters", false), ("InvalidModes", false), ("InvalidRow", false), ("InvalidEnds", false), ("InvalidResult", false), ("InvalidProgram", false), ("InvalidFigures", false), ("InvalidState", false), ("InvalidText", false), ("InvalidRatio", false), ("InvalidRows", false), ("InvalidForm", false), ("InvalidPieces", false), ("InvalidCommand", false), ("InvalidSign", false), ("InvalidMachine", false), ("UnknownName", false), ("Endless", false), ("DivisionByZero", false), ("Parted", false), ("Unlike", false), ("Broken", false), ("Guarded", false), ("NothingToUndo", false), ("NothingToRedo", false), ("NoTrial", true), ("LimitExceeded", false)]
abbrev isl_NothingToRedo : List (String × Bool) := [("InvalidRule", false), ("InvalidNumber", false), ("InvalidBase", false), ("InvalidName", false), ("InvalidRegisters", false), ("InvalidModes", false), ("InvalidRow", false), ("InvalidEnds", false), ("InvalidResult", false), ("InvalidProgram", false), ("InvalidFigures", false), ("InvalidState", false), ("InvalidText", false), ("InvalidRatio", false), ("InvalidRows", false), ("InvalidForm", false), ("InvalidPieces", false), ("InvalidCommand", false), ("InvalidSign", false), ("InvalidMachine", false), ("UnknownName", false), ("Endless", false), ("DivisionByZero", false), ("Parted", false), ("Unlike", false), ("Broken", false), ("Guarded", false), ("NothingToUndo", false), ("NothingToRedo", true), ("NoTrial", false), ("LimitExceeded", false)]
abbrev isl_NothingToUndo : List (String × Bool) := [("InvalidRule", false), ("InvalidNumber", false), ("InvalidBase", false), ("InvalidName", false), ("InvalidRegisters", false), ("InvalidModes", false), ("InvalidRow", false), ("InvalidEnds", false), ("InvalidResult", false), ("InvalidProgram", false), ("InvalidFigures", false), ("InvalidState", false), ("InvalidText", false), ("InvalidRatio", false), ("InvalidRows", false), ("InvalidForm", false), ("InvalidPieces", false), ("InvalidCommand", false), ("InvalidSign", false), ("InvalidMachine", false), ("UnknownName", false), ("Endless", false), ("DivisionByZero", false), ("Parted", false), ("Unlike", false), ("Broken", false), ("Guarded", false), ("NothingToUndo", true), ("NothingToRedo", false), ("NoTrial", false), ("LimitExceeded", false)]
abbrev isl_LimitExceeded : List (String × Bool) := [("InvalidRule", false), ("InvalidNumber", false), ("InvalidBase", false), ("InvalidName", false), ("InvalidRegisters", false), ("InvalidModes", false), ("InvalidRow", false), ("InvalidEnds", false), ("InvalidResult", false), ("InvalidProgram", false), ("InvalidFigures", false), ("InvalidState", false), ("InvalidText", false), ("InvalidRatio", false), ("InvalidRows", false), ("InvalidForm", false), ("InvalidPieces", false), ("InvalidCommand", false), ("InvalidSign", false), ("InvalidMachine", false), ("UnknownName", false), ("Endless", false), ("DivisionByZero", false), ("Parted", false), ("Unlike", false), ("Broken", false), ("Guarded", false), ("NothingToUndo", false), ("NothingToRedo", false), ("NoTrial", false), ("LimitExceeded", true)]
abbrev isl_ArithmeticError : List (String × Bool) := [("InvalidRule", false), ("InvalidNumber", false), ("InvalidBase", false), ("InvalidName", false), ("InvalidRegisters", false), ("InvalidModes", false), ("InvalidRow", false), ("InvalidEnds", false), ("InvalidResult", false), ("InvalidProgram", false), ("InvalidFigures", false), ("InvalidState", false), ("InvalidText", false), ("InvalidRatio", false), ("InvalidRows", false), ("InvalidForm", false), ("InvalidPieces", false), ("InvalidCommand", false), ("InvalidSign", false), ("InvalidMachine", false), ("UnknownName", false), ("Endless", true), ("DivisionByZero", true), ("Parted", false), ("Unlike", false), ("Broken", false), ("Guarded", false), ("NothingToUndo", false), ("NothingToRedo", false), ("NoTrial", false), ("LimitExceeded", true)]
abbrev isl_LookupError : List (String × Bool) := [("InvalidRule", false), ("InvalidNumber", false), ("InvalidBase", false), ("InvalidName", false), ("InvalidRegisters", false), ("InvalidModes", false), ("InvalidRow", false), ("InvalidEnds", false), ("InvalidResult", false), ("InvalidProgram", false), ("InvalidFigures", false), ("InvalidState", false), ("InvalidText", false), ("InvalidRatio", false), ("InvalidRows", false), ("InvalidForm", false), ("InvalidPieces", false), ("InvalidCommand", false), ("InvalidSign", false), ("InvalidMachine", false), ("UnknownName", true), ("Endless", false), ("DivisionByZero", false), ("Parted", false), ("Unlike", false), ("Broken", false), ("Guarded", false), ("NothingToUndo", false), ("NothingToRedo", false), ("NoTrial", false), ("LimitExceeded", false)]
abbrev isl_ValueError : List (String × Bool) := [("InvalidRule", true), ("InvalidNumber", true), ("InvalidBase", true), ("InvalidName", true), ("InvalidRegisters", true), ("InvalidModes", true), ("InvalidRow", true), ("InvalidEnds", true), ("InvalidResult", true), ("InvalidProgram", true), ("InvalidFigures", true), ("InvalidState", true), ("InvalidText", true), ("InvalidRatio", true), ("InvalidRows", true), ("InvalidForm", true), ("InvalidPieces", true), ("InvalidCommand", true), ("InvalidSign", true), ("InvalidMachine", true), ("UnknownName", false), ("Endless", false), ("DivisionByZero", false), ("Parted", false), ("Unlike", false), ("Broken", false), ("Guarded", false), ("NothingToUndo", false), ("NothingToRedo", false), ("NoTrial", false), ("LimitExceeded", false)]
abbrev isl_OverflowError : List (String × Bool) := [("InvalidRule", false), ("InvalidNumber", false), ("InvalidBase", false), ("InvalidName", false), ("InvalidRegisters", false), ("InvalidModes", false), ("InvalidRow", false), ("InvalidEnds", false), ("InvalidResult", false), ("InvalidProgram", false), ("InvalidFigures", false), ("InvalidState", false), ("InvalidText", false), ("InvalidRatio", false), ("InvalidRows", false), ("InvalidForm", false), ("InvalidPieces", false), ("InvalidCommand", false), ("InvalidSign", false), ("InvalidMachine", false), ("UnknownName", false), ("Endless", false), ("DivisionByZero", false), ("Parted", false), ("Unlike", false), ("Broken", false), ("Guarded", false), ("NothingToUndo", false), ("NothingToRedo", false), ("NoTrial", false), ("LimitExceeded", true)]
abbrev isl_RuntimeError : List (String × Bool) := [("InvalidRule", false), ("InvalidNumber", false), ("InvalidBase", false), ("InvalidName", false), ("InvalidRegisters", false), ("InvalidModes", false), ("InvalidRow", false), ("InvalidEnds", false), ("InvalidResult", false), ("InvalidProgram", false), ("InvalidFigures", false), ("InvalidState", false), ("InvalidText", false), ("InvalidRatio", false), ("InvalidRows", false), ("InvalidForm", false), ("InvalidPieces", false), ("InvalidCommand", false), ("InvalidSign", false), ("InvalidMachine", false), ("UnknownName", false), ("Endless", false), ("DivisionByZero", false), ("Parted", true), ("Unlike", true), ("Broken", true), ("Guarded", true), ("NothingToUndo", true), ("NothingToRedo", true), ("NoTrial", true), ("LimitExceeded", false)]
def xsL : List String := []
def exL : List (PySem.W.Frag → Bool) := [oxB .ve "InvalidRegisters", oxB .ve "InvalidName", oxB .ve "InvalidBase", oxB .ve "InvalidNumber", oxB .ve "InvalidRule", oxB .ve "InvalidResult", oxB .ve "InvalidEnds", oxB .ve "InvalidRow", oxB .ve "InvalidModes", oxB .ve "InvalidText", oxB .ve "InvalidState", oxB .ve "InvalidFigures", oxB .ve "InvalidProgram", oxB .ve "InvalidSign", oxB .ve "InvalidForm", oxB .ve "InvalidRows", oxB .ve "InvalidRatio", oxB .le "UnknownName", oxB .ve "InvalidCommand", oxB .ve "InvalidPieces", oxB .ve "InvalidMachine", oxB .re "Broken", oxB .re "Unlike", oxB .re "Parted", oxB .ae "DivisionByZero", oxB .ae "Endless", oxB .oe "LimitExceeded", oxB .re "NoTrial", oxB .re "NothingToRedo", oxB .re "NothingToUndo", oxB .re "Guarded", xvB "value" ["InvalidRule", "InvalidNumber", "InvalidBase", "InvalidName", "InvalidEnds", "InvalidResult", "InvalidProgram", "InvalidFigures", "InvalidState", "InvalidRatio", "InvalidRows", "InvalidForm", "InvalidSign", "InvalidMachine", "UnknownName"], xvB "mode" ["InvalidRow"], xvB "number" ["InvalidRegisters", "InvalidModes", "InvalidRow", "InvalidPieces", "Endless", "Parted", "Broken", "Guarded"], xvB "line" ["InvalidText"], xvB "word" ["InvalidCommand"], xvB "condition" ["Guarded"], xvB "one" ["Unlike"], xvB "most" ["LimitExceeded"], excsB exvL, isxB (fun K => .ref (gaS K "InvalidBase")) isl_InvalidBase, isxB (fun K => .ref (gaS K "InvalidNumber")) isl_InvalidNumber, isxB (fun K => .ref (gaS K "InvalidRule")) isl_InvalidRule, isxB (fun K => .ref (gaS K "InvalidModes")) isl_InvalidModes, isxB (fun K => .ref (gaS K "InvalidRegisters")) isl_InvalidRegisters, isxB (fun K => .ref (gaS K "InvalidName")) isl_InvalidName, isxB (fun K => .ref (gaS K "InvalidResult")) isl_InvalidResult, isxB (fun K => .ref (gaS K "InvalidEnds")) isl_InvalidEnds, isxB (fun K => .ref (gaS K "InvalidRow")) isl_InvalidRow, isxB (fun K => .ref (gaS K "InvalidState")) isl_InvalidState, isxB (fun K => .ref (gaS K "InvalidFigures")) isl_InvalidFigures, isxB (fun K => .ref (gaS K "InvalidProgram")) isl_InvalidProgram, isxB (fun K => .ref (gaS K "InvalidRows")) isl_InvalidRows, isxB (fun K => .ref (gaS K "InvalidRatio")) isl_InvalidRatio, isxB (fun K => .ref (gaS K "InvalidText")) isl_InvalidText, isxB (fun K => .ref (gaS K "InvalidMachine")) isl_InvalidMachine, isxB (fun K => .ref (gaS K "InvalidSign")) isl_InvalidSign, isxB (fun K => .ref (gaS K "InvalidForm")) isl_InvalidForm, isxB (fun K => .ref (gaS K "UnknownName")) isl_UnknownName, isxB (fun K => .ref (gaS K "InvalidCommand")) isl_InvalidCommand, isxB (fun K => .ref (gaS K "InvalidPieces")) isl_InvalidPieces, isxB (fun K => .ref (gaS K "Parted")) isl_Parted, isxB (fun K => .ref (gaS K "DivisionByZero")) isl_DivisionByZero, isxB (fun K => .ref (gaS K "Endless")) isl_Endless, isxB (fun K => .ref (gaS K "Guarded")) isl_Guarded, isxB (fun K => .ref (gaS K "Broken")) isl_Broken, isxB (fun K => .ref (gaS K "Unlike")) isl_Unlike, isxB (fun K => .ref (gaS K "NoTrial")) isl_NoTrial, isxB (fun K => .ref (gaS K "NothingToRedo")) isl_NothingToRedo, isxB (fun K => .ref (gaS K "NothingToUndo")) isl_NothingToUndo, isxB (fun K => .ref (gaS K "LimitExceeded")) isl_LimitExceeded, isxB (fun _ => .type "ArithmeticError") isl_ArithmeticError, isxB (fun _ => .type "LookupError") isl_LookupError, isxB (fun _ => .type "ValueError") isl_ValueError, isxB (fun _ => .type "OverflowError") isl_OverflowError, isxB (fun _ => .type "RuntimeError") isl_RuntimeError, smB, xvB "other" ["Unlike"], nofB "InvalidRegisters" "number", nofB "InvalidName" "value", nofB "InvalidBase" "value", nofB "InvalidNumber" "value", nofB "InvalidRule" "value", nofB "InvalidResult" "value", nofB "InvalidEnds" "value", nofB "InvalidRow" "mode", nofB "InvalidRow" "number", nofB "InvalidModes" "number", nofB "InvalidText" "line", nofB "InvalidState" "value", nofB "InvalidFigures" "value", nofB "InvalidProgram" "value", nofB "InvalidSign" "value", nofB "InvalidForm" "value", nofB "InvalidRows" "value", nofB "InvalidRatio" "value", nofB "UnknownName" "value", nofB "InvalidCommand" "word", nofB "InvalidPieces" "number", nofB "InvalidMachine" "value", nofB "Broken" "number", nofB "Unlike" "one", nofB "Unlike" "other", nofB "Parted" "number", nofB "Endless" "number", nofB "LimitExceeded" "most", nofB "Guarded" "condition", nofB "Guarded" "number", xmB xsL]
def exK (K : PySem.W.Frag) : Bool := exL.all fun b => b K
def df0 : Df := ⟨fun K => (gaS K "_law_pool"), "_law_pool", "_law_pool", defArgs s_l_pool, defBody s_l_pool, defScope s_l_pool, []⟩
def df1 : Df := ⟨fun K => (gaS K "_law_draw"), "_law_draw", "_law_draw", defArgs s_l_draw, defBody s_l_draw, defScope s_l_draw, []⟩
def df2 : Df := ⟨fun K => (gaS K "_law_choose"), "_law_choose", "_law_choose", defArgs s_l_choose, defBody s_l_choose, defScope s_l_choose, []⟩
def df3 : Df := ⟨fun K => (gaS K "_law_made"), "_law_made", "_law_made", defArgs s_l_made, defBody s_l_made, defScope s_l_made, []⟩
def df4 : Df := ⟨fun K => (gaS K "_law_named"), "_law_named", "_law_named", defArgs s_l_named, defBody s_l_named, defScope s_l_named, []⟩
def df5 : Df := ⟨fun K => (gaS K "_law_fields"), "_law_fields", "_law_fields", defArgs s_l_fields, defBody s_l_fields, defScope s_l_fields, []⟩
def df6 : Df := ⟨fun K => (gaS K "_law_kinds"), "_law_kinds", "_law_kinds", defArgs s_l_kinds, defBody s_l_kinds, defScope s_l_kinds, []⟩
def df7 : Df := ⟨fun K => (gaS K "_law_bases"), "_law_bases", "_law_bases", defArgs s_l_bases, defBody s_l_bases, defScope s_l_bases, []⟩
def df8 : Df := ⟨fun K => (gaS K "law"), "law", "law", defArgs s_law, defBody s_law, defScope s_law, []⟩
def df9 : Df := ⟨fun K => (maS K "InvalidRegisters" "__init__"), "__init__", "InvalidRegisters.__init__", defArgs s_x_InvalidRegisters, defBody s_x_InvalidRegisters, defScope s_x_InvalidRegisters, []⟩
def df10 : Df := ⟨fun K => (maS K "InvalidName" "__init__"), "__init__", "InvalidName.__init__", defArgs s_x_InvalidName, defBody s_x_InvalidName, defScope s_x_InvalidName, []⟩
def df11 : Df := ⟨fun K => (maS K "InvalidBase" "__init__"), "__init__", "InvalidBase.__init__", defArgs s_x_InvalidBase, defBody s_x_InvalidBase, defScope s_x_InvalidBase, []⟩
def df12 : Df := ⟨fun K => (maS K "InvalidNumber" "__init__"), "__init__", "InvalidNumber.__init__", defArgs s_x_InvalidNumber, defBody s_x_InvalidNumber, defScope s_x_InvalidNumber, []⟩
def df13 : Df := ⟨fun K => (maS K "InvalidRule" "__init__"), "__init__", "InvalidRule.__init__", defArgs s_x_InvalidRule, defBody s_x_InvalidRule, defScope s_x_InvalidRule, []⟩
def df14 : Df := ⟨fun K => (maS K "InvalidResult" "__init__"), "__init__", "InvalidResult.__init__", defArgs s_x_InvalidResult, defBody s_x_InvalidResult, defScope s_x_InvalidResult, []⟩
def df15 : Df := ⟨fun K => (maS K "InvalidEnds" "__init__"), "__init__", "InvalidEnds.__init__", defArgs s_x_InvalidEnds, defBody s_x_InvalidEnds, defScope s_x_InvalidEnds, []⟩
def df16 : Df := ⟨fun K => (maS K "InvalidRow" "__init__"), "__init__", "InvalidRow.__init__", defArgs s_x_InvalidRow, defBody s_x_InvalidRow, defScope s_x_InvalidRow, []⟩
def df17 : Df := ⟨fun K => (maS K "InvalidModes" "__init__"), "__init__", "InvalidModes.__init__", defArgs s_x_InvalidModes, defBody s_x_InvalidModes, defScope s_x_InvalidModes, []⟩
def df18 : Df := ⟨fun K => (maS K "InvalidText" "__init__"), "__init__", "InvalidText.__init__", defArgs s_x_InvalidText, defBody s_x_InvalidText, defScope s_x_InvalidText, []⟩
def df19 : Df := ⟨fun K => (maS K "InvalidState" "__init__"), "__init__", "InvalidState.__init__", defArgs s_x_InvalidState, defBody s_x_InvalidState, defScope s_x_InvalidState, []⟩
def df20 : Df := ⟨fun K => (maS K "InvalidFigures" "__init__"), "__init__", "InvalidFigures.__init__", defArgs s_x_InvalidFigures, defBody s_x_InvalidFigures, defScope s_x_InvalidFigures, []⟩
def df21 : Df := ⟨fun K => (maS K "InvalidProgram" "__init__"), "__init__", "InvalidProgram.__init__", defArgs s_x_InvalidProgram, defBody s_x_InvalidProgram, defScope s_x_InvalidProgram, []⟩
def df22 : Df := ⟨fun K => (maS K "InvalidSign" "__init__"), "__init__", "InvalidSign.__init__", defArgs s_x_InvalidSign, defBody s_x_InvalidSign, defScope s_x_InvalidSign, []⟩
def df23 : Df := ⟨fun K => (maS K "InvalidForm" "__init__"), "__init__", "InvalidForm.__init__", defArgs s_x_InvalidForm, defBody s_x_InvalidForm, defScope s_x_InvalidForm, []⟩
def df24 : Df := ⟨fun K => (maS K "InvalidRows" "__init__"), "__init__", "InvalidRows.__init__", defArgs s_x_InvalidRows, defBody s_x_InvalidRows, defScope s_x_InvalidRows, []⟩
def df25 : Df := ⟨fun K => (maS K "InvalidRatio" "__init__"), "__init__", "InvalidRatio.__init__", defArgs s_x_InvalidRatio, defBody s_x_InvalidRatio, defScope s_x_InvalidRatio, []⟩
def df26 : Df := ⟨fun K => (maS K "UnknownName" "__init__"), "__init__", "UnknownName.__init__", defArgs s_x_UnknownName, defBody s_x_UnknownName, defScope s_x_UnknownName, []⟩
def df27 : Df := ⟨fun K => (maS K "InvalidCommand" "__init__"), "__init__", "InvalidCommand.__init__", defArgs s_x_InvalidCommand, defBody s_x_InvalidCommand, defScope s_x_InvalidCommand, []⟩
def df28 : Df := ⟨fun K => (maS K "InvalidPieces" "__init__"), "__init__", "InvalidPieces.__init__", defArgs s_x_InvalidPieces, defBody s_x_InvalidPieces, defScope s_x_InvalidPieces, []⟩
def df29 : Df := ⟨fun K => (maS K "InvalidMachine" "__init__"), "__init__", "InvalidMachine.__init__", defArgs s_x_InvalidMachine, defBody s_x_InvalidMachine, defScope s_x_InvalidMachine, []⟩
def df30 : Df := ⟨fun K => (maS K "Broken" "__init__"), "__init__", "Broken.__init__", defArgs s_x_Broken, defBody s_x_Broken, defScope s_x_Broken, []⟩
def df31 : Df := ⟨fun K => (maS K "Unlike" "__init__"), "__init__", "Unlike.__init__", defArgs s_x_Unlike, defBody s_x_Unlike, defScope s_x_Unlike, []⟩
def df32 : Df := ⟨fun K => (maS K "Parted" "__init__"), "__init__", "Parted.__init__", defArgs s_x_Parted, defBody s_x_Parted, defScope s_x_Parted, []⟩
def df33 : Df := ⟨fun K => (maS K "DivisionByZero" "__init__"), "__init__", "DivisionByZero.__init__", defArgs s_x_DivisionByZero, defBody s_x_DivisionByZero, defScope s_x_DivisionByZero, []⟩
def df34 : Df := ⟨fun K => (maS K "Endless" "__init__"), "__init__", "Endless.__init__", defArgs s_x_Endless, defBody s_x_Endless, defScope s_x_Endless, []⟩
def df35 : Df := ⟨fun K => (maS K "LimitExceeded" "__init__"), "__init__", "LimitExceeded.__init__", defArgs s_x_LimitExceeded, defBody s_x_LimitExceeded, defScope s_x_LimitExceeded, []⟩
def df36 : Df := ⟨fun K => (maS K "NoTrial" "__init__"), "__init__", "NoTrial.__init__", defArgs s_x_NoTrial, defBody s_x_NoTrial, defScope s_x_NoTrial, []⟩
def df37 : Df := ⟨fun K => (maS K "NothingToRedo" "__init__"), "__init__", "NothingToRedo.__init__", defArgs s_x_NothingToRedo, defBody s_x_NothingToRedo, defScope s_x_NothingToRedo, []⟩
def df38 : Df := ⟨fun K => (maS K "NothingToUndo" "__init__"), "__init__", "NothingToUndo.__init__", defArgs s_x_NothingToUndo, defBody s_x_NothingToUndo, defScope s_x_NothingToUndo, []⟩
def df39 : Df := ⟨fun K => (maS K "Guarded" "__init__"), "__init__", "Guarded.__init__", defArgs s_x_Guarded, defBody s_x_Guarded, defScope s_x_Guarded, []⟩
def fns : List Df := [df0, df1, df2, df3, df4, df5, df6, df7, df8, df9, df10, df11, df12, df13, df14, df15, df16, df17, df18, df19, df20, df21, df22, df23, df24, df25, df26, df27, df28, df29, df30, df31, df32, df33, df34, df35, df36, df37, df38, df39]
section
variable {K : PySem.W.Frag} {mg : Str → Option Value} {w : World}
theorem exf (T : Tx tab exK fns K mg w) (i : Nat) {b : PySem.W.Frag → Bool} (h : exL[i]? = some b := by rfl) : b K = true := List.all_eq_true.mp T.c.ext b (mem_ix i h)
def GG (T : Tx tab exK fns K mg w) : Ga := mkG (T.tab.G w) xsL (xmB_ok (exf T 108))
theorem stbG (T : Tx tab exK fns K mg w) : (GG T).Stb := fun _ _ _ _ _ _ => trivial
theorem jvG (T : Tx tab exK fns K mg w) : ∀ F ad σ, (GG T).jv F ad σ := fun _ _ _ => trivial
end
section
variable {P : Program} {w : World} {K : PySem.W.Frag} {mg : Str → Option Value} {base : Heap}
theorem ok_x_InvalidRegisters (T : Tx tab exK fns K mg w) : ∃ fd, FnOk P w K mg base CX0 1 (maS K "InvalidRegisters" "__init__") fd ["self", "number"] (spExc (Str.ofString "number") (gaS K "InvalidRegisters")) ∧ Binds K fd ["self", "number"] [] := by
  obtain ⟨fd, F⟩ := T.c.def_ 9
  refine ⟨fd, fund_ok0 F sc_x_InvalidRegisters (fun vs H Q E h => ?_) (fun cdv A outer s H vs Q E hr h => ?_), F.bindsN (fun _ _ _ _ _ _ us hl => match us, hl with | [_, _], _ => rfl)⟩
  · obtain ⟨a, v0, rfl, _⟩ := h
    rfl
  · obtain ⟨a, v0, rfl, ha, q⟩ := h
    refine ⟨_, pss_cons (ps_expr (pe_xinit (pl := _) (Bk.ok .ve) (by rfl) (T.bl 5) (oxB_ok (k := .ve) (c := "InvalidRegisters") (exf T 0)).ve (pa_cons (pv 0) (pa_cons pe_str pa_nil)))) (pss_one (ps_xst (Bk.ok .ve) (pv 0) (pv 1))), ?_⟩
    refine ⟨_, rfl, a, _, _, rfl, (by decide), (oxB_ok (k := .ve) (c := "InvalidRegisters") (exf T 0)).oex, ha, ?_⟩
    exact ⟨_, rfl, _, rfl, a, _, rfl, (oxB_ok (k := .ve) (c := "InvalidRegisters") (exf T 0)).oex, (eqI_of (exf T 78)), .inl ⟨ha, q⟩⟩
theorem ok_x_InvalidName (T : Tx tab exK fns K mg w) : ∃ fd, FnOk P w K mg base CX0 1 (maS K "InvalidName" "__init__") fd ["self", "value"] (spExc (Str.ofString "value") (gaS K "InvalidName")) ∧ Binds K fd ["self", "value"] [] := by
  obtain ⟨fd, F⟩ := T.c.def_ 10
  refine ⟨fd, fund_ok0 F sc_x_InvalidName (fun vs H Q E h => ?_) (fun cdv A outer s H vs Q E hr h => ?_), F.bindsN (fun _ _ _ _ _ _ us hl => match us, hl with | [_, _], _ => rfl)⟩
  · obtain ⟨a, v0, rfl, _⟩ := h
    rfl
  · obtain ⟨a, v0, rfl, ha, q⟩ := h
    refine ⟨_, pss_cons (ps_expr (pe_xinit (pl := _) (Bk.ok .ve) (by rfl) (T.bl 5) (oxB_ok (k := .ve) (c := "InvalidName") (exf T 1)).ve (pa_cons (pv 0) (pa_cons pe_str pa_nil)))) (pss_one (ps_xst (Bk.ok .ve) (pv 0) (pv 1))), ?_⟩
    refine ⟨_, rfl, a, _, _, rfl, (by decide), (oxB_ok (k := .ve) (c := "InvalidName") (exf T 1)).oex, ha, ?_⟩
    exact ⟨_, rfl, _, rfl, a, _, rfl, (oxB_ok (k := .ve) (c := "InvalidName") (exf T 1)).oex, (eqI_of (exf T 79)), .inl ⟨ha, q⟩⟩
theorem ok_x_InvalidBase (T : Tx tab exK fns K mg w) : ∃ fd, FnOk P w K mg base CX0 1 (maS K "InvalidBase" "__init__") fd ["self", "value"] (spExc (Str.ofString "value") (gaS K "InvalidBase")) ∧ Binds K fd ["self", "value"] [] := by
  obtain ⟨fd, F⟩ := T.c.def_ 11
  refine ⟨fd, fund_ok0 F sc_x_InvalidBase (fun vs H Q E h => ?_) (fun cdv A outer s H vs Q E hr h => ?_), F.bindsN (fun _ _ _ _ _ _ us hl => match us, hl with | [_, _], _ => rfl)⟩
  · obtain ⟨a, v0, rfl, _⟩ := h
    rfl
  · obtain ⟨a, v0, rfl, ha, q⟩ := h
    refine ⟨_, pss_cons (ps_expr (pe_xinit (pl := _) (Bk.ok .ve) (by rfl) (T.bl 5) (oxB_ok (k := .ve) (c := "InvalidBase") (exf T 2)).ve (pa_cons (pv 0) (pa_cons pe_str pa_nil)))) (pss_one (ps_xst (Bk.ok .ve) (pv 0) (pv 1))), ?_⟩
    refine ⟨_, rfl, a, _, _, rfl, (by decide), (oxB_ok (k := .ve) (c := "InvalidBase") (exf T 2)).oex, ha, ?_⟩
    exact ⟨_, rfl, _, rfl, a, _, rfl, (oxB_ok (k := .ve) (c := "InvalidBase") (exf T 2)).oex, (eqI_of (exf T 80)), .inl ⟨ha, q⟩⟩
theorem ok_x_InvalidNumber (T : Tx tab exK fns K mg w) : ∃ fd, FnOk P w K mg base CX0 1 (maS K "InvalidNumber" "__init__") fd ["self", "value"] (spExc (Str.ofString "value") (gaS K "InvalidNumber")) ∧ Binds K fd ["self", "value"] [] := by
  obtain ⟨fd, F⟩ := T.c.def_ 12
  refine ⟨fd, fund_ok0 F sc_x_InvalidNumber (fun vs H Q E h => ?_) (fun cdv A outer s H vs Q E hr h => ?_), F.bindsN (fun _ _ _ _ _ _ us hl => match us, hl with | [_, _], _ => rfl)⟩
  · obtain ⟨a, v0, rfl, _⟩ := h
    rfl
  · obtain ⟨a, v0, rfl, ha, q⟩ := h
    refine ⟨_, pss_cons (ps_expr (pe_xinit (pl := _) (Bk.ok .ve) (by rfl) (T.bl 5) (oxB_ok (k := .ve) (c := "InvalidNumber") (exf T 3)).ve (pa_cons (pv 0) (pa_cons pe_str pa_nil)))) (pss_one (ps_xst (Bk.ok .ve) (pv 0) (pv 1))), ?_⟩
    refine ⟨_, rfl, a, _, _, rfl, (by decide), (oxB_ok (k := .ve) (c := "InvalidNumber") (exf T 3)).oex, ha, ?_⟩
    exact ⟨_, rfl, _, rfl, a, _, rfl, (oxB_ok (k := .ve) (c := "InvalidNumber") (exf T 3)).oex, (eqI_of (exf T 81)), .inl ⟨ha, q⟩⟩
theorem ok_x_InvalidRule (T : Tx tab exK fns K mg w) : ∃ fd, FnOk P w K mg base CX0 1 (maS K "InvalidRule" "__init__") fd ["self", "value"] (spExc (Str.ofString "value") (gaS K "InvalidRule")) ∧ Binds K fd ["self", "value"] [] := by
  obtain ⟨fd, F⟩ := T.c.def_ 13
  refine ⟨fd, fund_ok0 F sc_x_InvalidRule (fun vs H Q E h => ?_) (fun cdv A outer s H vs Q E hr h => ?_), F.bindsN (fun _ _ _ _ _ _ us hl => match us, hl with | [_, _], _ => rfl)⟩
  · obtain ⟨a, v0, rfl, _⟩ := h
    rfl
  · obtain ⟨a, v0, rfl, ha, q⟩ := h
    refine ⟨_, pss_cons (ps_expr (pe_xinit (pl := _) (Bk.ok .ve) (by rfl) (T.bl 5) (oxB_ok (k := .ve) (c := "InvalidRule") (exf T 4)).ve (pa_cons (pv 0) (pa_cons pe_str pa_nil)))) (pss_one (ps_xst (Bk.ok .ve) (pv 0) (pv 1))), ?_⟩
    refine ⟨_, rfl, a, _, _, rfl, (by decide), (oxB_ok (k := .ve) (c := "InvalidRule") (exf T 4)).oex, ha, ?_⟩
    exact ⟨_, rfl, _, rfl, a, _, rfl, (oxB_ok (k := .ve) (c := "InvalidRule") (exf T 4)).oex, (eqI_of (exf T 82)), .inl ⟨ha, q⟩⟩
theorem ok_x_InvalidResult (T : Tx tab exK fns K mg w) : ∃ fd, FnOk P w K mg base CX0 1 (maS K "InvalidResult" "__init__") fd ["self", "value"] (spExc (Str.ofString "value") (gaS K "InvalidResult")) ∧ Binds K fd ["self", "value"] [] := by
  obtain ⟨fd, F⟩ := T.c.def_ 14
  refine ⟨fd, fund_ok0 F sc_x_InvalidResult (fun vs H Q E h => ?_) (fun cdv A outer s H vs Q E hr h => ?_), F.bindsN (fun _ _ _ _ _ _ us hl => match us, hl with | [_, _], _ => rfl)⟩
  · obtain ⟨a, v0, rfl, _⟩ := h
    rfl
  · obtain ⟨a, v0, rfl, ha, q⟩ := h
    refine ⟨_, pss_cons (ps_expr (pe_xinit (pl := _) (Bk.ok .ve) (by rfl) (T.bl 5) (oxB_ok (k := .ve) (c := "InvalidResult") (exf T 5)).ve (pa_cons (pv 0) (pa_cons pe_str pa_nil)))) (pss_one (ps_xst (Bk.ok .ve) (pv 0) (pv 1))), ?_⟩
    refine ⟨_, rfl, a, _, _, rfl, (by decide), (oxB_ok (k := .ve) (c := "InvalidResult") (exf T 5)).oex, ha, ?_⟩
    exact ⟨_, rfl, _, rfl, a, _, rfl, (oxB_ok (k := .ve) (c := "InvalidResult") (exf T 5)).oex, (eqI_of (exf T 83)), .inl ⟨ha, q⟩⟩
theorem ok_x_InvalidEnds (T : Tx tab exK fns K mg w) : ∃ fd, FnOk P w K mg base CX0 1 (maS K "InvalidEnds" "__init__") fd ["self", "value"] (spExc (Str.ofString "value") (gaS K "InvalidEnds")) ∧ Binds K fd ["self", "value"] [] := by
  obtain ⟨fd, F⟩ := T.c.def_ 15
  refine ⟨fd, fund_ok0 F sc_x_InvalidEnds (fun vs H Q E h => ?_) (fun cdv A outer s H vs Q E hr h => ?_), F.bindsN (fun _ _ _ _ _ _ us hl => match us, hl with | [_, _], _ => rfl)⟩
  · obtain ⟨a, v0, rfl, _⟩ := h
    rfl
  · obtain ⟨a, v0, rfl, ha, q⟩ := h
    refine ⟨_, pss_cons (ps_expr (pe_xinit (pl := _) (Bk.ok .ve) (by rfl) (T.bl 5) (oxB_ok (k := .ve) (c := "InvalidEnds") (exf T 6)).ve (pa_cons (pv 0) (pa_cons pe_str pa_nil)))) (pss_one (ps_xst (Bk.ok .ve) (pv 0) (pv 1))), ?_⟩
    refine ⟨_, rfl, a, _, _, rfl, (by decide), (oxB_ok (k := .ve) (c := "InvalidEnds") (exf T 6)).oex, ha, ?_⟩
    exact ⟨_, rfl, _, rfl, a, _, rfl, (oxB_ok (k := .ve) (c := "InvalidEnds") (exf T 6)).oex, (eqI_of (exf T 84)), .inl ⟨ha, q⟩⟩
theorem ok_x_InvalidRow (T : Tx tab exK fns K mg w) : ∃ fd, FnOk P w K mg base CX0 1 (maS K "InvalidRow" "__init__") fd ["self", "mode", "number"] (spExc2 (Str.ofString "mode") (Str.ofString "number") (gaS K "InvalidRow")) ∧ Binds K fd ["self", "mode", "number"] [] := by
  obtain ⟨fd, F⟩ := T.c.def_ 16
  refine ⟨fd, fund_ok0 F sc_x_InvalidRow (fun vs H Q E h => ?_) (fun cdv A outer s H vs Q E hr h => ?_), F.bindsN (fun _ _ _ _ _ _ us hl => match us, hl with | [_, _, _], _ => rfl)⟩
  · obtain ⟨a, v0, v1, rfl, _⟩ := h
    rfl
  · obtain ⟨a, v0, v1, rfl, ha, q⟩ := h
    refine ⟨_, pss_cons (ps_expr (pe_xinit (pl := _) (Bk.ok .ve) (by rfl) (T.bl 5) (oxB_ok (k := .ve) (c := "InvalidRow") (exf T 7)).ve (pa_cons (pv 0) (pa_cons pe_str pa_nil)))) (pss_cons (ps_xst (Bk.ok .ve) (pv 0) (pv 1)) (pss_one (ps_xst (Bk.ok .ve) (pv 0) (pv 2)))), ?_⟩
    refine ⟨_, rfl, a, _, _, rfl, (by decide), (oxB_ok (k := .ve) (c := "InvalidRow") (exf T 7)).oex, ha, ?_⟩
    refine ⟨_, rfl, _, rfl, a, _, rfl, (oxB_ok (k := .ve) (c := "InvalidRow") (exf T 7)).oex, (eqI_of (exf T 85)), .inl ⟨ha, fun dx hd ne => ?_⟩⟩
    refine ⟨_, rfl, _, rfl, a, _, rfl, (oxB_ok (k := .ve) (c := "InvalidRow") (exf T 7)).oex, (eqI_of (exf T 86)), .inr ⟨dx, _, upd_same, by rw [upd_ne ne, upd_same], by simp, q dx hd ne⟩⟩
theorem ok_x_InvalidModes (T : Tx tab exK fns K mg w) : ∃ fd, FnOk P w K mg base CX0 1 (maS K "InvalidModes" "__init__") fd ["self", "number"] (spExc (Str.ofString "number") (gaS K "InvalidModes")) ∧ Binds K fd ["self", "number"] [] := by
  obtain ⟨fd, F⟩ := T.c.def_ 17
  refine ⟨fd, fund_ok0 F sc_x_InvalidModes (fun vs H Q E h => ?_) (fun cdv A outer s H vs Q E hr h => ?_), F.bindsN (fun _ _ _ _ _ _ us hl => match us, hl with | [_, _], _ => rfl)⟩
  · obtain ⟨a, v0, rfl, _⟩ := h
    rfl
  · obtain ⟨a, v0, rfl, ha, q⟩ := h
    refine ⟨_, pss_cons (ps_expr (pe_xinit (pl := _) (Bk.ok .ve) (by rfl) (T.bl 5) (oxB_ok (k := .ve) (c := "InvalidModes") (exf T 8)).ve (pa_cons (pv 0) (pa_cons pe_str pa_nil)))) (pss_one (ps_xst (Bk.ok .ve) (pv 0) (pv 1))), ?_⟩
    refine ⟨_, rfl, a, _, _, rfl, (by decide), (oxB_ok (k := .ve) (c := "InvalidModes") (exf T 8)).oex, ha, ?_⟩
    exact ⟨_, rfl, _, rfl, a, _, rfl, (oxB_ok (k := .ve) (c := "InvalidModes") (exf T 8)).oex, (eqI_of (exf T 87)), .inl ⟨ha, q⟩⟩
theorem ok_x_InvalidText (T : Tx tab exK fns K mg w) : ∃ fd, FnOk P w K mg base CX0 1 (maS K "InvalidText" "__init__") fd ["self", "line"] (spExc (Str.ofString "line") (gaS K "InvalidText")) ∧ Binds K fd ["self", "line"] [] := by
  obtain ⟨fd, F⟩ := T.c.def_ 18
  refine ⟨fd, fund_ok0 F sc_x_InvalidText (fun vs H Q E h => ?_) (fun cdv A outer s H vs Q E hr h => ?_), F.bindsN (fun _ _ _ _ _ _ us hl => match us, hl with | [_, _], _ => rfl)⟩
  · obtain ⟨a, v0, rfl, _⟩ := h
    rfl
  · obtain ⟨a, v0, rfl, ha, q⟩ := h
    refine ⟨_, pss_cons (ps_expr (pe_xinit (pl := _) (Bk.ok .ve) (by rfl) (T.bl 5) (oxB_ok (k := .ve) (c := "InvalidText") (exf T 9)).ve (pa_cons (pv 0) (pa_cons pe_str pa_nil)))) (pss_one (ps_xst (Bk.ok .ve) (pv 0) (pv 1))), ?_⟩
    refine ⟨_, rfl, a, _, _, rfl, (by decide), (oxB_ok (k := .ve) (c := "InvalidText") (exf T 9)).oex, ha, ?_⟩
    exact ⟨_, rfl, _, rfl, a, _, rfl, (oxB_ok (k := .ve) (c := "InvalidText") (exf T 9)).oex, (eqI_of (exf T 88)), .inl ⟨ha, q⟩⟩
theorem ok_x_InvalidState (T : Tx tab exK fns K mg w) : ∃ fd, FnOk P w K mg base CX0 1 (maS K "InvalidState" "__init__") fd ["self", "value"] (spExc (Str.ofString "value") (gaS K "InvalidState")) ∧ Binds K fd ["self", "value"] [] := by
  obtain ⟨fd, F⟩ := T.c.def_ 19
  refine ⟨fd, fund_ok0 F sc_x_InvalidState (fun vs H Q E h => ?_) (fun cdv A outer s H vs Q E hr h => ?_), F.bindsN (fun _ _ _ _ _ _ us hl => match us, hl with | [_, _], _ => rfl)⟩
  · obtain ⟨a, v0, rfl, _⟩ := h
    rfl
  · obtain ⟨a, v0, rfl, ha, q⟩ := h
    refine ⟨_, pss_cons (ps_expr (pe_xinit (pl := _) (Bk.ok .ve) (by rfl) (T.bl 5) (oxB_ok (k := .ve) (c := "InvalidState") (exf T 10)).ve (pa_cons (pv 0) (pa_cons pe_str pa_nil)))) (pss_one (ps_xst (Bk.ok .ve) (pv 0) (pv 1))), ?_⟩
    refine ⟨_, rfl, a, _, _, rfl, (by decide), (oxB_ok (k := .ve) (c := "InvalidState") (exf T 10)).oex, ha, ?_⟩
    exact ⟨_, rfl, _, rfl, a, _, rfl, (oxB_ok (k := .ve) (c := "InvalidState") (exf T 10)).oex, (eqI_of (exf T 89)), .inl ⟨ha, q⟩⟩
theorem ok_x_InvalidFigures (T : Tx tab exK fns K mg w) : ∃ fd, FnOk P w K mg base CX0 1 (maS K "InvalidFigures" "__init__") fd ["self", "value"] (spExc (Str.ofString "value") (gaS K "InvalidFigures")) ∧ Binds K fd ["self", "value"] [] := by
  obtain ⟨fd, F⟩ := T.c.def_ 20
  refine ⟨fd, fund_ok0 F sc_x_InvalidFigures (fun vs H Q E h => ?_) (fun cdv A outer s H vs Q E hr h => ?_), F.bindsN (fun _ _ _ _ _ _ us hl => match us, hl with | [_, _], _ => rfl)⟩
  · obtain ⟨a, v0, rfl, _⟩ := h
    rfl
  · obtain ⟨a, v0, rfl, ha, q⟩ := h
    refine ⟨_, pss_cons (ps_expr (pe_xinit (pl := _) (Bk.ok .ve) (by rfl) (T.bl 5) (oxB_ok (k := .ve) (c := "InvalidFigures") (exf T 11)).ve (pa_cons (pv 0) (pa_cons pe_str pa_nil)))) (pss_one (ps_xst (Bk.ok .ve) (pv 0) (pv 1))), ?_⟩
    refine ⟨_, rfl, a, _, _, rfl, (by decide), (oxB_ok (k := .ve) (c := "InvalidFigures") (exf T 11)).oex, ha, ?_⟩
    exact ⟨_, rfl, _, rfl, a, _, rfl, (oxB_ok (k := .ve) (c := "InvalidFigures") (exf T 11)).oex, (eqI_of (exf T 90)), .inl ⟨ha, q⟩⟩
theorem ok_x_InvalidProgram (T : Tx tab exK fns K mg w) : ∃ fd, FnOk P w K mg base CX0 1 (maS K "InvalidProgram" "__init__") fd ["self", "value"] (spExc (Str.ofString "value") (gaS K "InvalidProgram")) ∧ Binds K fd ["self", "value"] [] := by
  obtain ⟨fd, F⟩ := T.c.def_ 21
  refine ⟨fd, fund_ok0 F sc_x_InvalidProgram (fun vs H Q E h => ?_) (fun cdv A outer s H vs Q E hr h => ?_), F.bindsN (fun _ _ _ _ _ _ us hl => match us, hl with | [_, _], _ => rfl)⟩
  · obtain ⟨a, v0, rfl, _⟩ := h
    rfl
  · obtain ⟨a, v0, rfl, ha, q⟩ := h
    refine ⟨_, pss_cons (ps_expr (pe_xinit (pl := _) (Bk.ok .ve) (by rfl) (T.bl 5) (oxB_ok (k := .ve) (c := "InvalidProgram") (exf T 12)).ve (pa_cons (pv 0) (pa_cons pe_str pa_nil)))) (pss_one (ps_xst (Bk.ok .ve) (pv 0) (pv 1))), ?_⟩
    refine ⟨_, rfl, a, _, _, rfl, (by decide), (oxB_ok (k := .ve) (c := "InvalidProgram") (exf T 12)).oex, ha, ?_⟩
    exact ⟨_, rfl, _, rfl, a, _, rfl, (oxB_ok (k := .ve) (c := "InvalidProgram") (exf T 12)).oex, (eqI_of (exf T 91)), .inl ⟨ha, q⟩⟩
theorem ok_x_InvalidSign (T : Tx tab exK fns K mg w) : ∃ fd, FnOk P w K mg base CX0 1 (maS K "InvalidSign" "__init__") fd ["self", "value"] (spExc (Str.ofString "value") (gaS K "InvalidSign")) ∧ Binds K fd ["self", "value"] [] := by
  obtain ⟨fd, F⟩ := T.c.def_ 22
  refine ⟨fd, fund_ok0 F sc_x_InvalidSign (fun vs H Q E h => ?_) (fun cdv A outer s H vs Q E hr h => ?_), F.bindsN (fun _ _ _ _ _ _ us hl => match us, hl with | [_, _], _ => rfl)⟩
  · obtain ⟨a, v0, rfl, _⟩ := h
    rfl
  · obtain ⟨a, v0, rfl, ha, q⟩ := h
    refine ⟨_, pss_cons (ps_expr (pe_xinit (pl := _) (Bk.ok .ve) (by rfl) (T.bl 5) (oxB_ok (k := .ve) (c := "InvalidSign") (exf T 13)).ve (pa_cons (pv 0) (pa_cons pe_str pa_nil)))) (pss_one (ps_xst (Bk.ok .ve) (pv 0) (pv 1))), ?_⟩
    refine ⟨_, rfl, a, _, _, rfl, (by decide), (oxB_ok (k := .ve) (c := "InvalidSign") (exf T 13)).oex, ha, ?_⟩
    exact ⟨_, rfl, _, rfl, a, _, rfl, (oxB_ok (k := .ve) (c := "InvalidSign") (exf T 13)).oex, (eqI_of (exf T 92)), .inl ⟨ha, q⟩⟩
theorem ok_x_InvalidForm (T : Tx tab exK fns K mg w) : ∃ fd, FnOk P w K mg base CX0 1 (maS K "InvalidForm" "__init__") fd ["self", "value"] (spExc (Str.ofString "value") (gaS K "InvalidForm")) ∧ Binds K fd ["self", "value"] [] := by
  obtain ⟨fd, F⟩ := T.c.def_ 23
  refine ⟨fd, fund_ok0 F sc_x_InvalidForm (fun vs H Q E h => ?_) (fun cdv A outer s H vs Q E hr h => ?_), F.bindsN (fun _ _ _ _ _ _ us hl => match us, hl with | [_, _], _ => rfl)⟩
  · obtain ⟨a, v0, rfl, _⟩ := h
    rfl
  · obtain ⟨a, v0, rfl, ha, q⟩ := h
    refine ⟨_, pss_cons (ps_expr (pe_xinit (pl := _) (Bk.ok .ve) (by rfl) (T.bl 5) (oxB_ok (k := .ve) (c := "InvalidForm") (exf T 14)).ve (pa_cons (pv 0) (pa_cons pe_str pa_nil)))) (pss_one (ps_xst (Bk.ok .ve) (pv 0) (pv 1))), ?_⟩
    refine ⟨_, rfl, a, _, _, rfl, (by decide), (oxB_ok (k := .ve) (c := "InvalidForm") (exf T 14)).oex, ha, ?_⟩
    exact ⟨_, rfl, _, rfl, a, _, rfl, (oxB_ok (k := .ve) (c := "InvalidForm") (exf T 14)).oex, (eqI_of (exf T 93)), .inl ⟨ha, q⟩⟩
theorem ok_x_InvalidRows (T : Tx tab exK fns K mg w) : ∃ fd, FnOk P w K mg base CX0 1 (maS K "InvalidRows" "__init__") fd ["self", "value"] (spExc (Str.ofString "value") (gaS K "InvalidRows")) ∧ Binds K fd ["self", "value"] [] := by
  obtain ⟨fd, F⟩ := T.c.def_ 24
  refine ⟨fd, fund_ok0 F sc_x_InvalidRows (fun vs H Q E h => ?_) (fun cdv A outer s H vs Q E hr h => ?_), F.bindsN (fun _ _ _ _ _ _ us hl => match us, hl with | [_, _], _ => rfl)⟩
  · obtain ⟨a, v0, rfl, _⟩ := h
    rfl
  · obtain ⟨a, v0, rfl, ha, q⟩ := h
    refine ⟨_, pss_cons (ps_expr (pe_xinit (pl := _) (Bk.ok .ve) (by rfl) (T.bl 5) (oxB_ok (k := .ve) (c := "InvalidRows") (exf T 15)).ve (pa_cons (pv 0) (pa_cons pe_str pa_nil)))) (pss_one (ps_xst (Bk.ok .ve) (pv 0) (pv 1))), ?_⟩
    refine ⟨_, rfl, a, _, _, rfl, (by decide), (oxB_ok (k := .ve) (c := "InvalidRows") (exf T 15)).oex, ha, ?_⟩
    exact ⟨_, rfl, _, rfl, a, _, rfl, (oxB_ok (k := .ve) (c := "InvalidRows") (exf T 15)).oex, (eqI_of (exf T 94)), .inl ⟨ha, q⟩⟩
theorem ok_x_InvalidRatio (T : Tx tab exK fns K mg w) : ∃ fd, FnOk P w K mg base CX0 1 (maS K "InvalidRatio" "__init__") fd ["self", "value"] (spExc (Str.ofString "value") (gaS K "InvalidRatio")) ∧ Binds K fd ["self", "value"] [] := by
  obtain ⟨fd, F⟩ := T.c.def_ 25
  refine ⟨fd, fund_ok0 F sc_x_InvalidRatio (fun vs H Q E h => ?_) (fun cdv A outer s H vs Q E hr h => ?_), F.bindsN (fun _ _ _ _ _ _ us hl => match us, hl with | [_, _], _ => rfl)⟩
  · obtain ⟨a, v0, rfl, _⟩ := h
    rfl
  · obtain ⟨a, v0, rfl, ha, q⟩ := h
    refine ⟨_, pss_cons (ps_expr (pe_xinit (pl := _) (Bk.ok .ve) (by rfl) (T.bl 5) (oxB_ok (k := .ve) (c := "InvalidRatio") (exf T 16)).ve (pa_cons (pv 0) (pa_cons pe_str pa_nil)))) (pss_one (ps_xst (Bk.ok .ve) (pv 0) (pv 1))), ?_⟩
    refine ⟨_, rfl, a, _, _, rfl, (by decide), (oxB_ok (k := .ve) (c := "InvalidRatio") (exf T 16)).oex, ha, ?_⟩
    exact ⟨_, rfl, _, rfl, a, _, rfl, (oxB_ok (k := .ve) (c := "InvalidRatio") (exf T 16)).oex, (eqI_of (exf T 95)), .inl ⟨ha, q⟩⟩
theorem ok_x_UnknownName (T : Tx tab exK fns K mg w) : ∃ fd, FnOk P w K mg base CX0 1 (maS K "UnknownName" "__init__") fd ["self", "value"] (spExc (Str.ofString "value") (gaS K "UnknownName")) ∧ Binds K fd ["self", "value"] [] := by
  obtain ⟨fd, F⟩ := T.c.def_ 26
  refine ⟨fd, fund_ok0 F sc_x_UnknownName (fun vs H Q E h => ?_) (fun cdv A outer s H vs Q E hr h => ?_), F.bindsN (fun _ _ _ _ _ _ us hl => match us, hl with | [_, _], _ => rfl)⟩
  · obtain ⟨a, v0, rfl, _⟩ := h
    rfl
  · obtain ⟨a, v0, rfl, ha, q⟩ := h
    refine ⟨_, pss_cons (ps_expr (pe_xinit (pl := _) (Bk.ok .le) (by rfl) (T.bl 4) (oxB_ok (k := .le) (c := "UnknownName") (exf T 17)).ve (pa_cons (pv 0) (pa_cons pe_str pa_nil)))) (pss_one (ps_xst (Bk.ok .le) (pv 0) (pv 1))), ?_⟩
    refine ⟨_, rfl, a, _, _, rfl, (by decide), (oxB_ok (k := .le) (c := "UnknownName") (exf T 17)).oex, ha, ?_⟩
    exact ⟨_, rfl, _, rfl, a, _, rfl, (oxB_ok (k := .le) (c := "UnknownName") (exf T 17)).oex, (eqI_of (exf T 96)), .inl ⟨ha, q⟩⟩
theorem ok_x_InvalidCommand (T : Tx tab exK fns K mg w) : ∃ fd, FnOk P w K mg base CX0 1 (maS K "InvalidCommand" "__init__") fd ["self", "word"] (spExc (Str.ofString "word") (gaS K "InvalidCommand")) ∧ Binds K fd ["self", "word"] [] := by
  obtain ⟨fd, F⟩ := T.c.def_ 27
  refine ⟨fd, fund_ok0 F sc_x_InvalidCommand (fun vs H Q E h => ?_) (fun cdv A outer s H vs Q E hr h => ?_), F.bindsN (fun _ _ _ _ _ _ us hl => match us, hl with | [_, _], _ => rfl)⟩
  · obtain ⟨a, v0, rfl, _⟩ := h
    rfl
  · obtain ⟨a, v0, rfl, ha, q⟩ := h
    refine ⟨_, pss_cons (ps_expr (pe_xinit (pl := _) (Bk.ok .ve) (by rfl) (T.bl 5) (oxB_ok (k := .ve) (c := "InvalidCommand") (exf T 18)).ve (pa_cons (pv 0) (pa_cons pe_str pa_nil)))) (pss_one (ps_xst (Bk.ok .ve) (pv 0) (pv 1))), ?_⟩
    refine ⟨_, rfl, a, _, _, rfl, (by decide), (oxB_ok (k := .ve) (c := "InvalidCommand") (exf T 18)).oex, ha, ?_⟩
    exact ⟨_, rfl, _, rfl, a, _, rfl, (oxB_ok (k := .ve) (c := "InvalidCommand") (exf T 18)).oex, (eqI_of (exf T 97)), .inl ⟨ha, q⟩⟩
theorem ok_x_InvalidPieces (T : Tx tab exK fns K mg w) : ∃ fd, FnOk P w K mg base CX0 1 (maS K "InvalidPieces" "__init__") fd ["self", "number"] (spExc (Str.ofString "number") (gaS K "InvalidPieces")) ∧ Binds K fd ["self", "number"] [] := by
  obtain ⟨fd, F⟩ := T.c.def_ 28
  refine ⟨fd, fund_ok0 F sc_x_InvalidPieces (fun vs H Q E h => ?_) (fun cdv A outer s H vs Q E hr h => ?_), F.bindsN (fun _ _ _ _ _ _ us hl => match us, hl with | [_, _], _ => rfl)⟩
  · obtain ⟨a, v0, rfl, _⟩ := h
    rfl
  · obtain ⟨a, v0, rfl, ha, q⟩ := h
    refine ⟨_, pss_cons (ps_expr (pe_xinit (pl := _) (Bk.ok .ve) (by rfl) (T.bl 5) (oxB_ok (k := .ve) (c := "InvalidPieces") (exf T 19)).ve (pa_cons (pv 0) (pa_cons pe_str pa_nil)))) (pss_one (ps_xst (Bk.ok .ve) (pv 0) (pv 1))), ?_⟩
    refine ⟨_, rfl, a, _, _, rfl, (by decide), (oxB_ok (k := .ve) (c := "InvalidPieces") (exf T 19)).oex, ha, ?_⟩
    exact ⟨_, rfl, _, rfl, a, _, rfl, (oxB_ok (k := .ve) (c := "InvalidPieces") (exf T 19)).oex, (eqI_of (exf T 98)), .inl ⟨ha, q⟩⟩
theorem ok_x_InvalidMachine (T : Tx tab exK fns K mg w) : ∃ fd, FnOk P w K mg base CX0 1 (maS K "InvalidMachine" "__init__") fd ["self", "value"] (spExc (Str.ofString "value") (gaS K "InvalidMachine")) ∧ Binds K fd ["self", "value"] [] := by
  obtain ⟨fd, F⟩ := T.c.def_ 29
  refine ⟨fd, fund_ok0 F sc_x_InvalidMachine (fun vs H Q E h => ?_) (fun cdv A outer s H vs Q E hr h => ?_), F.bindsN (fun _ _ _ _ _ _ us hl => match us, hl with | [_, _], _ => rfl)⟩
  · obtain ⟨a, v0, rfl, _⟩ := h
    rfl
  · obtain ⟨a, v0, rfl, ha, q⟩ := h
    refine ⟨_, pss_cons (ps_expr (pe_xinit (pl := _) (Bk.ok .ve) (by rfl) (T.bl 5) (oxB_ok (k := .ve) (c := "InvalidMachine") (exf T 20)).ve (pa_cons (pv 0) (pa_cons pe_str pa_nil)))) (pss_one (ps_xst (Bk.ok .ve) (pv 0) (pv 1))), ?_⟩
    refine ⟨_, rfl, a, _, _, rfl, (by decide), (oxB_ok (k := .ve) (c := "InvalidMachine") (exf T 20)).oex, ha, ?_⟩
    exact ⟨_, rfl, _, rfl, a, _, rfl, (oxB_ok (k := .ve) (c := "InvalidMachine") (exf T 20)).oex, (eqI_of (exf T 99)), .inl ⟨ha, q⟩⟩
theorem ok_x_Broken (T : Tx tab exK fns K mg w) : ∃ fd, FnOk P w K mg base CX0 1 (maS K "Broken" "__init__") fd ["self", "number"] (spExc (Str.ofString "number") (gaS K "Broken")) ∧ Binds K fd ["self", "number"] [] := by
  obtain ⟨fd, F⟩ := T.c.def_ 30
  refine ⟨fd, fund_ok0 F sc_x_Broken (fun vs H Q E h => ?_) (fun cdv A outer s H vs Q E hr h => ?_), F.bindsN (fun _ _ _ _ _ _ us hl => match us, hl with | [_, _], _ => rfl)⟩
  · obtain ⟨a, v0, rfl, _⟩ := h
    rfl
  · obtain ⟨a, v0, rfl, ha, q⟩ := h
    refine ⟨_, pss_cons (ps_expr (pe_xinit (pl := _) (Bk.ok .re) (by rfl) (T.bl 7) (oxB_ok (k := .re) (c := "Broken") (exf T 21)).ve (pa_cons (pv 0) (pa_cons pe_str pa_nil)))) (pss_one (ps_xst (Bk.ok .re) (pv 0) (pv 1))), ?_⟩
    refine ⟨_, rfl, a, _, _, rfl, (by decide), (oxB_ok (k := .re) (c := "Broken") (exf T 21)).oex, ha, ?_⟩
    exact ⟨_, rfl, _, rfl, a, _, rfl, (oxB_ok (k := .re) (c := "Broken") (exf T 21)).oex, (eqI_of (exf T 100)), .inl ⟨ha, q⟩⟩
theorem ok_x_Unlike (T : Tx tab exK fns K mg w) : ∃ fd, FnOk P w K mg base CX0 1 (maS K "Unlike" "__init__") fd ["self", "one", "other"] (spExc2 (Str.ofString "one") (Str.ofString "other") (gaS K "Unlike")) ∧ Binds K fd ["self", "one", "other"] [] := by
  obtain ⟨fd, F⟩ := T.c.def_ 31
  refine ⟨fd, fund_ok0 F sc_x_Unlike (fun vs H Q E h => ?_) (fun cdv A outer s H vs Q E hr h => ?_), F.bindsN (fun _ _ _ _ _ _ us hl => match us, hl with | [_, _, _], _ => rfl)⟩
  · obtain ⟨a, v0, v1, rfl, _⟩ := h
    rfl
  · obtain ⟨a, v0, v1, rfl, ha, q⟩ := h
    refine ⟨_, pss_cons (ps_expr (pe_xinit (pl := _) (Bk.ok .re) (by rfl) (T.bl 7) (oxB_ok (k := .re) (c := "Unlike") (exf T 22)).ve (pa_cons (pv 0) (pa_cons pe_str pa_nil)))) (pss_cons (ps_xst (Bk.ok .re) (pv 0) (pv 1)) (pss_one (ps_xst (Bk.ok .re) (pv 0) (pv 2)))), ?_⟩
    refine ⟨_, rfl, a, _, _, rfl, (by decide), (oxB_ok (k := .re) (c := "Unlike") (exf T 22)).oex, ha, ?_⟩
    refine ⟨_, rfl, _, rfl, a, _, rfl, (oxB_ok (k := .re) (c := "Unlike") (exf T 22)).oex, (eqI_of (exf T 101)), .inl ⟨ha, fun dx hd ne => ?_⟩⟩
    refine ⟨_, rfl, _, rfl, a, _, rfl, (oxB_ok (k := .re) (c := "Unlike") (exf T 22)).oex, (eqI_of (exf T 102)), .inr ⟨dx, _, upd_same, by rw [upd_ne ne, upd_same], by simp, q dx hd ne⟩⟩
theorem ok_x_Parted (T : Tx tab exK fns K mg w) : ∃ fd, FnOk P w K mg base CX0 1 (maS K "Parted" "__init__") fd ["self", "number"] (spExc (Str.ofString "number") (gaS K "Parted")) ∧ Binds K fd ["self", "number"] [] := by
  obtain ⟨fd, F⟩ := T.c.def_ 32
  refine ⟨fd, fund_ok0 F sc_x_Parted (fun vs H Q E h => ?_) (fun cdv A outer s H vs Q E hr h => ?_), F.bindsN (fun _ _ _ _ _ _ us hl => match us, hl with | [_, _], _ => rfl)⟩
  · obtain ⟨a, v0, rfl, _⟩ := h
    rfl
  · obtain ⟨a, v0, rfl, ha, q⟩ := h
    refine ⟨_, pss_cons (ps_expr (pe_xinit (pl := _) (Bk.ok .re) (by rfl) (T.bl 7) (oxB_ok (k := .re) (c := "Parted") (exf T 23)).ve (pa_cons (pv 0) (pa_cons pe_str pa_nil)))) (pss_one (ps_xst (Bk.ok .re) (pv 0) (pv 1))), ?_⟩
    refine ⟨_, rfl, a, _, _, rfl, (by decide), (oxB_ok (k := .re) (c := "Parted") (exf T 23)).oex, ha, ?_⟩
    exact ⟨_, rfl, _, rfl, a, _, rfl, (oxB_ok (k := .re) (c := "Parted") (exf T 23)).oex, (eqI_of (exf T 103)), .inl ⟨ha, q⟩⟩
theorem ok_x_DivisionByZero (T : Tx tab exK fns K mg w) : ∃ fd, FnOk P w K mg base CX0 1 (maS K "DivisionByZero" "__init__") fd ["self"] (spExc0 (gaS K "DivisionByZero")) ∧ Binds K fd ["self"] [] := by
  obtain ⟨fd, F⟩ := T.c.def_ 33
  refine ⟨fd, fund_ok0 F sc_x_DivisionByZero (fun vs H Q E h => ?_) (fun cdv A outer s H vs Q E hr h => ?_), F.bindsN (fun _ _ _ _ _ _ us hl => match us, hl with | [_], _ => rfl)⟩
  · obtain ⟨a, rfl, _⟩ := h
    rfl
  · obtain ⟨a, rfl, ha, q⟩ := h
    refine ⟨_, pss_one (ps_expr (pe_xinit (pl := _) (Bk.ok .ae) (by rfl) (T.bl 3) (oxB_ok (k := .ae) (c := "DivisionByZero") (exf T 24)).ve (pa_cons (pv 0) (pa_cons pe_str pa_nil)))), ?_⟩
    exact ⟨_, rfl, a, _, _, rfl, (by decide), (oxB_ok (k := .ae) (c := "DivisionByZero") (exf T 24)).oex, ha, q⟩
theorem ok_x_Endless (T : Tx tab exK fns K mg w) : ∃ fd, FnOk P w K mg base CX0 1 (maS K "Endless" "__init__") fd ["self", "number"] (spExc (Str.ofString "number") (gaS K "Endless")) ∧ Binds K fd ["self", "number"] [] := by
  obtain ⟨fd, F⟩ := T.c.def_ 34
  refine ⟨fd, fund_ok0 F sc_x_Endless (fun vs H Q E h => ?_) (fun cdv A outer s H vs Q E hr h => ?_), F.bindsN (fun _ _ _ _ _ _ us hl => match us, hl with | [_, _], _ => rfl)⟩
  · obtain ⟨a, v0, rfl, _⟩ := h
    rfl
  · obtain ⟨a, v0, rfl, ha, q⟩ := h
    refine ⟨_, pss_cons (ps_expr (pe_xinit (pl := _) (Bk.ok .ae) (by rfl) (T.bl 3) (oxB_ok (k := .ae) (c := "Endless") (exf T 25)).ve (pa_cons (pv 0) (pa_cons pe_str pa_nil)))) (pss_one (ps_xst (Bk.ok .ae) (pv 0) (pv 1))), ?_⟩
    refine ⟨_, rfl, a, _, _, rfl, (by decide), (oxB_ok (k := .ae) (c := "Endless") (exf T 25)).oex, ha, ?_⟩
    exact ⟨_, rfl, _, rfl, a, _, rfl, (oxB_ok (k := .ae) (c := "Endless") (exf T 25)).oex, (eqI_of (exf T 104)), .inl ⟨ha, q⟩⟩
theorem ok_x_LimitExceeded (T : Tx tab exK fns K mg w) : ∃ fd, FnOk P w K mg base CX0 1 (maS K "LimitExceeded" "__init__") fd ["self", "most"] (spExc (Str.ofString "most") (gaS K "LimitExceeded")) ∧ Binds K fd ["self", "most"] [] := by
  obtain ⟨fd, F⟩ := T.c.def_ 35
  refine ⟨fd, fund_ok0 F sc_x_LimitExceeded (fun vs H Q E h => ?_) (fun cdv A outer s H vs Q E hr h => ?_), F.bindsN (fun _ _ _ _ _ _ us hl => match us, hl with | [_, _], _ => rfl)⟩
  · obtain ⟨a, v0, rfl, _⟩ := h
    rfl
  · obtain ⟨a, v0, rfl, ha, q⟩ := h
    refine ⟨_, pss_cons (ps_expr (pe_xinit (pl := _) (Bk.ok .oe) (by rfl) (T.bl 6) (oxB_ok (k := .oe) (c := "LimitExceeded") (exf T 26)).ve (pa_cons (pv 0) (pa_cons pe_str pa_nil)))) (pss_one (ps_xst (Bk.ok .oe) (pv 0) (pv 1))), ?_⟩
    refine ⟨_, rfl, a, _, _, rfl, (by decide), (oxB_ok (k := .oe) (c := "LimitExceeded") (exf T 26)).oex, ha, ?_⟩
    exact ⟨_, rfl, _, rfl, a, _, rfl, (oxB_ok (k := .oe) (c := "LimitExceeded") (exf T 26)).oex, (eqI_of (exf T 105)), .inl ⟨ha, q⟩⟩
theorem ok_x_NoTrial (T : Tx tab exK fns K mg w) : ∃ fd, FnOk P w K mg base CX0 1 (maS K "NoTrial" "__init__") fd ["self"] (spExc0 (gaS K "NoTrial")) ∧ Binds K fd ["self"] [] := by
  obtain ⟨fd, F⟩ := T.c.def_ 36
  refine ⟨fd, fund_ok0 F sc_x_NoTrial (fun vs H Q E h => ?_) (fun cdv A outer s H vs Q E hr h => ?_), F.bindsN (fun _ _ _ _ _ _ us hl => match us, hl with | [_], _ => rfl)⟩
  · obtain ⟨a, rfl, _⟩ := h
    rfl
  · obtain ⟨a, rfl, ha, q⟩ := h
    refine ⟨_, pss_one (ps_expr (pe_xinit (pl := _) (Bk.ok .re) (by rfl) (T.bl 7) (oxB_ok (k := .re) (c := "NoTrial") (exf T 27)).ve (pa_cons (pv 0) (pa_cons pe_str pa_nil)))), ?_⟩
    exact ⟨_, rfl, a, _, _, rfl, (by decide), (oxB_ok (k := .re) (c := "NoTrial") (exf T 27)).oex, ha, q⟩
theorem ok_x_NothingToRedo (T : Tx tab exK fns K mg w) : ∃ fd, FnOk P w K mg base CX0 1 (maS K "NothingToRedo" "__init__") fd ["self"] (spExc0 (gaS K "NothingToRedo")) ∧ Binds K fd ["self"] [] := by
  obtain ⟨fd, F⟩ := T.c.def_ 37
  refine ⟨fd, fund_ok0 F sc_x_NothingToRedo (fun vs H Q E h => ?_) (fun cdv A outer s H vs Q E hr h => ?_), F.bindsN (fun _ _ _ _ _ _ us hl => match us, hl with | [_], _ => rfl)⟩
  · obtain ⟨a, rfl, _⟩ := h
    rfl
  · obtain ⟨a, rfl, ha, q⟩ := h
    refine ⟨_, pss_one (ps_expr (pe_xinit (pl := _) (Bk.ok .re) (by rfl) (T.bl 7) (oxB_ok (k := .re) (c := "NothingToRedo") (exf T 28)).ve (pa_cons (pv 0) (pa_cons pe_str pa_nil)))), ?_⟩
    exact ⟨_, rfl, a, _, _, rfl, (by decide), (oxB_ok (k := .re) (c := "NothingToRedo") (exf T 28)).oex, ha, q⟩
theorem ok_x_NothingToUndo (T : Tx tab exK fns K mg w) : ∃ fd, FnOk P w K mg base CX0 1 (maS K "NothingToUndo" "__init__") fd ["self"] (spExc0 (gaS K "NothingToUndo")) ∧ Binds K fd ["self"] [] := by
  obtain ⟨fd, F⟩ := T.c.def_ 38
  refine ⟨fd, fund_ok0 F sc_x_NothingToUndo (fun vs H Q E h => ?_) (fun cdv A outer s H vs Q E hr h => ?_), F.bindsN (fun _ _ _ _ _ _ us hl => match us, hl with | [_], _ => rfl)⟩
  · obtain ⟨a, rfl, _⟩ := h
    rfl
  · obtain ⟨a, rfl, ha, q⟩ := h
    refine ⟨_, pss_one (ps_expr (pe_xinit (pl := _) (Bk.ok .re) (by rfl) (T.bl 7) (oxB_ok (k := .re) (c := "NothingToUndo") (exf T 29)).ve (pa_cons (pv 0) (pa_cons pe_str pa_nil)))), ?_⟩
    exact ⟨_, rfl, a, _, _, rfl, (by decide), (oxB_ok (k := .re) (c := "NothingToUndo") (exf T 29)).oex, ha, q⟩
theorem ok_x_Guarded (T : Tx tab exK fns K mg w) : ∃ fd, FnOk P w K mg base CX0 1 (maS K "Guarded" "__init__") fd ["self", "condition", "number"] (spExc2 (Str.ofString "condition") (Str.ofString "number") (gaS K "Guarded")) ∧ Binds K fd ["self", "condition", "number"] [] := by
  obtain ⟨fd, F⟩ := T.c.def_ 39
  refine ⟨fd, fund_ok0 F sc_x_Guarded (fun vs H Q E h => ?_) (fun cdv A outer s H vs Q E hr h => ?_), F.bindsN (fun _ _ _ _ _ _ us hl => match us, hl with | [_, _, _], _ => rfl)⟩
  · obtain ⟨a, v0, v1, rfl, _⟩ := h
    rfl
  · obtain ⟨a, v0, v1, rfl, ha, q⟩ := h
    refine ⟨_, pss_cons (ps_expr (pe_xinit (pl := _) (Bk.ok .re) (by rfl) (T.bl 7) (oxB_ok (k := .re) (c := "Guarded") (exf T 30)).ve (pa_cons (pv 0) (pa_cons pe_str pa_nil)))) (pss_cons (ps_xst (Bk.ok .re) (pv 0) (pv 1)) (pss_one (ps_xst (Bk.ok .re) (pv 0) (pv 2)))), ?_⟩
    refine ⟨_, rfl, a, _, _, rfl, (by decide), (oxB_ok (k := .re) (c := "Guarded") (exf T 30)).oex, ha, ?_⟩
    refine ⟨_, rfl, _, rfl, a, _, rfl, (oxB_ok (k := .re) (c := "Guarded") (exf T 30)).oex, (eqI_of (exf T 106)), .inl ⟨ha, fun dx hd ne => ?_⟩⟩
    refine ⟨_, rfl, _, rfl, a, _, rfl, (oxB_ok (k := .re) (c := "Guarded") (exf T 30)).oex, (eqI_of (exf T 107)), .inr ⟨dx, _, upd_same, by rw [upd_ne ne, upd_same], by simp, q dx hd ne⟩⟩
theorem fd_x_InvalidRule (T : Tx tab exK fns K mg w) : ∃ fd, FunD K "__init__" "InvalidRule.__init__" (defArgs s_x_InvalidRule) (defBody s_x_InvalidRule) (defScope s_x_InvalidRule) [] [] (maS K "InvalidRule" "__init__") fd ∧ FnOk P w K mg base CX0 1 (maS K "InvalidRule" "__init__") fd ["self", "value"] (spX (GG T) "InvalidRule" ["value"]) := by
  obtain ⟨fd, F⟩ := T.c.def_ 13
  refine ⟨fd, F, fund_ok0 F sc_x_InvalidRule (fun vs H Q E h => ?_) (fun cdv A outer s H vs Q E hr h => ?_)⟩
  · obtain ⟨a, v0, rfl, _⟩ := h
    rfl
  · obtain ⟨a, v0, rfl, ha, q⟩ := h
    refine ⟨_, pss_cons (ps_expr (pe_xinit (pl := _) (Bk.ok .ve) (by rfl) (T.bl 5) (oxB_ok (k := .ve) (c := "InvalidRule") (exf T 4)).ve (pa_cons (pv 0) (pa_cons pe_str pa_nil)))) (pss_one (ps_xst (Bk.ok .ve) (pv 0) (pv 1))), ?_⟩
    refine ⟨_, rfl, a, _, _, rfl, (by decide), (oxB_ok (k := .ve) (c := "InvalidRule") (exf T 4)).oex, ha, ?_⟩
    exact ⟨_, rfl, _, rfl, a, _, rfl, (oxB_ok (k := .ve) (c := "InvalidRule") (exf T 4)).oex, (eqI_of (exf T 82)), .inl ⟨ha, q⟩⟩
theorem fd_x_InvalidNumber (T : Tx tab exK fns K mg w) : ∃ fd, FunD K "__init__" "InvalidNumber.__init__" (defArgs s_x_InvalidNumber) (defBody s_x_InvalidNumber) (defScope s_x_InvalidNumber) [] [] (maS K "InvalidNumber" "__init__") fd ∧ FnOk P w K mg base CX0 1 (maS K "InvalidNumber" "__init__") fd ["self", "value"] (spX (GG T) "InvalidNumber" ["value"]) := by
  obtain ⟨fd, F⟩ := T.c.def_ 12
  refine ⟨fd, F, fund_ok0 F sc_x_InvalidNumber (fun vs H Q E h => ?_) (fun cdv A outer s H vs Q E hr h => ?_)⟩
  · obtain ⟨a, v0, rfl, _⟩ := h
    rfl
  · obtain ⟨a, v0, rfl, ha, q⟩ := h
    refine ⟨_, pss_cons (ps_expr (pe_xinit (pl := _) (Bk.ok .ve) (by rfl) (T.bl 5) (oxB_ok (k := .ve) (c := "InvalidNumber") (exf T 3)).ve (pa_cons (pv 0) (pa_cons pe_str pa_nil)))) (pss_one (ps_xst (Bk.ok .ve) (pv 0) (pv 1))), ?_⟩
    refine ⟨_, rfl, a, _, _, rfl, (by decide), (oxB_ok (k := .ve) (c := "InvalidNumber") (exf T 3)).oex, ha, ?_⟩
    exact ⟨_, rfl, _, rfl, a, _, rfl, (oxB_ok (k := .ve) (c := "InvalidNumber") (exf T 3)).oex, (eqI_of (exf T 81)), .inl ⟨ha, q⟩⟩
theorem fd_x_InvalidBase (T : Tx tab exK fns K mg w) : ∃ fd, FunD K "__init__" "InvalidBase.__init__" (defArgs s_x_InvalidBase) (defBody s_x_InvalidBase) (defScope s_x_InvalidBase) [] [] (maS K "InvalidBase" "__init__") fd ∧ FnOk P w K mg base CX0 1 (maS K "InvalidBase" "__init__") fd ["self", "value"] (spX (GG T) "InvalidBase" ["value"]) := by
  obtain ⟨fd, F⟩ := T.c.def_ 11
  refine ⟨fd, F, fund_ok0 F sc_x_InvalidBase (fun vs H Q E h => ?_) (fun cdv A outer s H vs Q E hr h => ?_)⟩
  · obtain ⟨a, v0, rfl, _⟩ := h
    rfl
  · obtain ⟨a, v0, rfl, ha, q⟩ := h
    refine ⟨_, pss_cons (ps_expr (pe_xinit (pl := _) (Bk.ok .ve) (by rfl) (T.bl 5) (oxB_ok (k := .ve) (c := "InvalidBase") (exf T 2)).ve (pa_cons (pv 0) (pa_cons pe_str pa_nil)))) (pss_one (ps_xst (Bk.ok .ve) (pv 0) (pv 1))), ?_⟩
    refine ⟨_, rfl, a, _, _, rfl, (by decide), (oxB_ok (k := .ve) (c := "InvalidBase") (exf T 2)).oex, ha, ?_⟩
    exact ⟨_, rfl, _, rfl, a, _, rfl, (oxB_ok (k := .ve) (c := "InvalidBase") (exf T 2)).oex, (eqI_of (exf T 80)), .inl ⟨ha, q⟩⟩
theorem fd_x_InvalidName (T : Tx tab exK fns K mg w) : ∃ fd, FunD K "__init__" "InvalidName.__init__" (defArgs s_x_InvalidName) (defBody s_x_InvalidName) (defScope s_x_InvalidName) [] [] (maS K "InvalidName" "__init__") fd ∧ FnOk P w K mg base CX0 1 (maS K "InvalidName" "__init__") fd ["self", "value"] (spX (GG T) "InvalidName" ["value"]) := by
  obtain ⟨fd, F⟩ := T.c.def_ 10
  refine ⟨fd, F, fund_ok0 F sc_x_InvalidName (fun vs H Q E h => ?_) (fun cdv A outer s H vs Q E hr h => ?_)⟩
  · obtain ⟨a, v0, rfl, _⟩ := h
    rfl
  · obtain ⟨a, v0, rfl, ha, q⟩ := h
    refine ⟨_, pss_cons (ps_expr (pe_xinit (pl := _) (Bk.ok .ve) (by rfl) (T.bl 5) (oxB_ok (k := .ve) (c := "InvalidName") (exf T 1)).ve (pa_cons (pv 0) (pa_cons pe_str pa_nil)))) (pss_one (ps_xst (Bk.ok .ve) (pv 0) (pv 1))), ?_⟩
    refine ⟨_, rfl, a, _, _, rfl, (by decide), (oxB_ok (k := .ve) (c := "InvalidName") (exf T 1)).oex, ha, ?_⟩
    exact ⟨_, rfl, _, rfl, a, _, rfl, (oxB_ok (k := .ve) (c := "InvalidName") (exf T 1)).oex, (eqI_of (exf T 79)), .inl ⟨ha, q⟩⟩
theorem fd_x_InvalidRegisters (T : Tx tab exK fns K mg w) : ∃ fd, FunD K "__init__" "InvalidRegisters.__init__" (defArgs s_x_InvalidRegisters) (defBody s_x_InvalidRegisters) (defScope s_x_InvalidRegisters) [] [] (maS K "InvalidRegisters" "__init__") fd ∧ FnOk P w K mg base CX0 1 (maS K "InvalidRegisters" "__init__") fd ["self", "number"] (spX (GG T) "InvalidRegisters" ["number"]) := by
  obtain ⟨fd, F⟩ := T.c.def_ 9
  refine ⟨fd, F, fund_ok0 F sc_x_InvalidRegisters (fun vs H Q E h => ?_) (fun cdv A outer s H vs Q E hr h => ?_)⟩
  · obtain ⟨a, v0, rfl, _⟩ := h
    rfl
  · obtain ⟨a, v0, rfl, ha, q⟩ := h
    refine ⟨_, pss_cons (ps_expr (pe_xinit (pl := _) (Bk.ok .ve) (by rfl) (T.bl 5) (oxB_ok (k := .ve) (c := "InvalidRegisters") (exf T 0)).ve (pa_cons (pv 0) (pa_cons pe_str pa_nil)))) (pss_one (ps_xst (Bk.ok .ve) (pv 0) (pv 1))), ?_⟩
    refine ⟨_, rfl, a, _, _, rfl, (by decide), (oxB_ok (k := .ve) (c := "InvalidRegisters") (exf T 0)).oex, ha, ?_⟩
    exact ⟨_, rfl, _, rfl, a, _, rfl, (oxB_ok (k := .ve) (c := "InvalidRegisters") (exf T 0)).oex, (eqI_of (exf T 78)), .inl ⟨ha, q⟩⟩
theorem fd_x_InvalidModes (T : Tx tab exK fns K mg w) : ∃ fd, FunD K "__init__" "InvalidModes.__init__" (defArgs s_x_InvalidModes) (defBody s_x_InvalidModes) (defScope s_x_InvalidModes) [] [] (maS K "InvalidModes" "__init__") fd ∧ FnOk P w K mg base CX0 1 (maS K "InvalidModes" "__init__") fd ["self", "number"] (spX (GG T) "InvalidModes" ["number"]) := by
  obtain ⟨fd, F⟩ := T.c.def_ 17
  refine ⟨fd, F, fund_ok0 F sc_x_InvalidModes (fun vs H Q E h => ?_) (fun cdv A outer s H vs Q E hr h => ?_)⟩
  · obtain ⟨a, v0, rfl, _⟩ := h
    rfl
  · obtain ⟨a, v0, rfl, ha, q⟩ := h
    refine ⟨_, pss_cons (ps_expr (pe_xinit (pl := _) (Bk.ok .ve) (by rfl) (T.bl 5) (oxB_ok (k := .ve) (c := "InvalidModes") (exf T 8)).ve (pa_cons (pv 0) (pa_cons pe_str pa_nil)))) (pss_one (ps_xst (Bk.ok .ve) (pv 0) (pv 1))), ?_⟩
    refine ⟨_, rfl, a, _, _, rfl, (by decide), (oxB_ok (k := .ve) (c := "InvalidModes") (exf T 8)).oex, ha, ?_⟩
    exact ⟨_, rfl, _, rfl, a, _, rfl, (oxB_ok (k := .ve) (c := "InvalidModes") (exf T 8)).oex, (eqI_of (exf T 87)), .inl ⟨ha, q⟩⟩
theorem fd_x_InvalidRow (T : Tx tab exK fns K mg w) : ∃ fd, FunD K "__init__" "InvalidRow.__init__" (defArgs s_x_InvalidRow) (defBody s_x_InvalidRow) (defScope s_x_InvalidRow) [] [] (maS K "InvalidRow" "__init__") fd ∧ FnOk P w K mg base CX0 1 (maS K "InvalidRow" "__init__") fd ["self", "mode", "number"] (spX (GG T) "InvalidRow" ["mode", "number"]) := by
  obtain ⟨fd, F⟩ := T.c.def_ 16
  refine ⟨fd, F, fund_ok0 F sc_x_InvalidRow (fun vs H Q E h => ?_) (fun cdv A outer s H vs Q E hr h => ?_)⟩
  · obtain ⟨a, v0, v1, rfl, _⟩ := h
    rfl
  · obtain ⟨a, v0, v1, rfl, ha, q⟩ := h
    refine ⟨_, pss_cons (ps_expr (pe_xinit (pl := _) (Bk.ok .ve) (by rfl) (T.bl 5) (oxB_ok (k := .ve) (c := "InvalidRow") (exf T 7)).ve (pa_cons (pv 0) (pa_cons pe_str pa_nil)))) (pss_cons (ps_xst (Bk.ok .ve) (pv 0) (pv 1)) (pss_one (ps_xst (Bk.ok .ve) (pv 0) (pv 2)))), ?_⟩
    refine ⟨_, rfl, a, _, _, rfl, (by decide), (oxB_ok (k := .ve) (c := "InvalidRow") (exf T 7)).oex, ha, ?_⟩
    refine ⟨_, rfl, _, rfl, a, _, rfl, (oxB_ok (k := .ve) (c := "InvalidRow") (exf T 7)).oex, (eqI_of (exf T 85)), .inl ⟨ha, fun dx hd ne => ?_⟩⟩
    refine ⟨_, rfl, _, rfl, a, _, rfl, (oxB_ok (k := .ve) (c := "InvalidRow") (exf T 7)).oex, (eqI_of (exf T 86)), .inr ⟨dx, _, upd_same, by rw [upd_ne ne, upd_same], by simp, q dx hd ne⟩⟩
theorem fd_x_InvalidEnds (T : Tx tab exK fns K mg w) : ∃ fd, FunD K "__init__" "InvalidEnds.__init__" (defArgs s_x_InvalidEnds) (defBody s_x_InvalidEnds) (defScope s_x_InvalidEnds) [] [] (maS K "InvalidEnds" "__init__") fd ∧ FnOk P w K mg base CX0 1 (maS K "InvalidEnds" "__init__") fd ["self", "value"] (spX (GG T) "InvalidEnds" ["value"]) := by
  obtain ⟨fd, F⟩ := T.c.def_ 15
  refine ⟨fd, F, fund_ok0 F sc_x_InvalidEnds (fun vs H Q E h => ?_) (fun cdv A outer s H vs Q E hr h => ?_)⟩
  · obtain ⟨a, v0, rfl, _⟩ := h
    rfl
  · obtain ⟨a, v0, rfl, ha, q⟩ := h
    refine ⟨_, pss_cons (ps_expr (pe_xinit (pl := _) (Bk.ok .ve) (by rfl) (T.bl 5) (oxB_ok (k := .ve) (c := "InvalidEnds") (exf T 6)).ve (pa_cons (pv 0) (pa_cons pe_str pa_nil)))) (pss_one (ps_xst (Bk.ok .ve) (pv 0) (pv 1))), ?_⟩
    refine ⟨_, rfl, a, _, _, rfl, (by decide), (oxB_ok (k := .ve) (c := "InvalidEnds") (exf T 6)).oex, ha, ?_⟩
    exact ⟨_, rfl, _, rfl, a, _, rfl, (oxB_ok (k := .ve) (c := "InvalidEnds") (exf T 6)).oex, (eqI_of (exf T 84)), .inl ⟨ha, q⟩⟩
theorem fd_x_InvalidResult (T : Tx tab exK fns K mg w) : ∃ fd, FunD K "__init__" "InvalidResult.__init__" (defArgs s_x_InvalidResult) (defBody s_x_InvalidResult) (defScope s_x_InvalidResult) [] [] (maS K "InvalidResult" "__init__") fd ∧ FnOk P w K mg base CX0 1 (maS K "InvalidResult" "__init__") fd ["self", "value"] (spX (GG T) "InvalidResult" ["value"]) := by
  obtain ⟨fd, F⟩ := T.c.def_ 14
  refine ⟨fd, F, fund_ok0 F sc_x_InvalidResult (fun vs H Q E h => ?_) (fun cdv A outer s H vs Q E hr h => ?_)⟩
  · obtain ⟨a, v0, rfl, _⟩ := h
    rfl
  · obtain ⟨a, v0, rfl, ha, q⟩ := h
    refine ⟨_, pss_cons (ps_expr (pe_xinit (pl := _) (Bk.ok .ve) (by rfl) (T.bl 5) (oxB_ok (k := .ve) (c := "InvalidResult") (exf T 5)).ve (pa_cons (pv 0) (pa_cons pe_str pa_nil)))) (pss_one (ps_xst (Bk.ok .ve) (pv 0) (pv 1))), ?_⟩
    refine ⟨_, rfl, a, _, _, rfl, (by decide), (oxB_ok (k := .ve) (c := "InvalidResult") (exf T 5)).oex, ha, ?_⟩
    exact ⟨_, rfl, _, rfl, a, _, rfl, (oxB_ok (k := .ve) (c := "InvalidResult") (exf T 5)).oex, (eqI_of (exf T 83)), .inl ⟨ha, q⟩⟩
theorem fd_x_InvalidProgram (T : Tx tab exK fns K mg w) : ∃ fd, FunD K "__init__" "InvalidProgram.__init__" (defArgs s_x_InvalidProgram) (defBody s_x_InvalidProgram) (defScope s_x_InvalidProgram) [] [] (maS K "InvalidProgram" "__init__") fd ∧ FnOk P w K mg base CX0 1 (maS K "InvalidProgram" "__init__") fd ["self", "value"] (spX (GG T) "InvalidProgram" ["value"]) := by
  obtain ⟨fd, F⟩ := T.c.def_ 21
  refine ⟨fd, F, fund_ok0 F sc_x_InvalidProgram (fun vs H Q E h => ?_) (fun cdv A outer s H vs Q E hr h => ?_)⟩
  · obtain ⟨a, v0, rfl, _⟩ := h
    rfl
  · obtain ⟨a, v0, rfl, ha, q⟩ := h
    refine ⟨_, pss_cons (ps_expr (pe_xinit (pl := _) (Bk.ok .ve) (by rfl) (T.bl 5) (oxB_ok (k := .ve) (c := "InvalidProgram") (exf T 12)).ve (pa_cons (pv 0) (pa_cons pe_str pa_nil)))) (pss_one (ps_xst (Bk.ok .ve) (pv 0) (pv 1))), ?_⟩
    refine ⟨_, rfl, a, _, _, rfl, (by decide), (oxB_ok (k := .ve) (c := "InvalidProgram") (exf T 12)).oex, ha, ?_⟩
    exact ⟨_, rfl, _, rfl, a, _, rfl, (oxB_ok (k := .ve) (c := "InvalidProgram") (exf T 12)).oex, (eqI_of (exf T 91)), .inl ⟨ha, q⟩⟩
theorem fd_x_InvalidFigures (T : Tx tab exK fns K mg w) : ∃ fd, FunD K "__init__" "InvalidFigures.__init__" (defArgs s_x_InvalidFigures) (defBody s_x_InvalidFigures) (defScope s_x_InvalidFigures) [] [] (maS K "InvalidFigures" "__init__") fd ∧ FnOk P w K mg base CX0 1 (maS K "InvalidFigures" "__init__") fd ["self", "value"] (spX (GG T) "InvalidFigures" ["value"]) := by
  obtain ⟨fd, F⟩ := T.c.def_ 20
  refine ⟨fd, F, fund_ok0 F sc_x_InvalidFigures (fun vs H Q E h => ?_) (fun cdv A outer s H vs Q E hr h => ?_)⟩
  · obtain ⟨a, v0, rfl, _⟩ := h
    rfl
  · obtain ⟨a, v0, rfl, ha, q⟩ := h
    refine ⟨_, pss_cons (ps_expr (pe_xinit (pl := _) (Bk.ok .ve) (by rfl) (T.bl 5) (oxB_ok (k := .ve) (c := "InvalidFigures") (exf T 11)).ve (pa_cons (pv 0) (pa_cons pe_str pa_nil)))) (pss_one (ps_xst (Bk.ok .ve) (pv 0) (pv 1))), ?_⟩
    refine ⟨_, rfl, a, _, _, rfl, (by decide), (oxB_ok (k := .ve) (c := "InvalidFigures") (exf T 11)).oex, ha, ?_⟩
    exact ⟨_, rfl, _, rfl, a, _, rfl, (oxB_ok (k := .ve) (c := "InvalidFigures") (exf T 11)).oex, (eqI_of (exf T 90)), .inl ⟨ha, q⟩⟩
theorem fd_x_InvalidState (T : Tx tab exK fns K mg w) : ∃ fd, FunD K "__init__" "InvalidState.__init__" (defArgs s_x_InvalidState) (defBody s_x_InvalidState) (defScope s_x_InvalidState) [] [] (maS K "InvalidState" "__init__") fd ∧ FnOk P w K mg base CX0 1 (maS K "InvalidState" "__init__") fd ["self", "value"] (spX (GG T) "InvalidState" ["value"]) := by
  obtain ⟨fd, F⟩ := T.c.def_ 19
  refine ⟨fd, F, fund_ok0 F sc_x_InvalidState (fun vs H Q E h => ?_) (fun cdv A outer s H vs Q E hr h => ?_)⟩
  · obtain ⟨a, v0, rfl, _⟩ := h
    rfl
  · obtain ⟨a, v0, rfl, ha, q⟩ := h
    refine ⟨_, pss_cons (ps_expr (pe_xinit (pl := _) (Bk.ok .ve) (by rfl) (T.bl 5) (oxB_ok (k := .ve) (c := "InvalidState") (exf T 10)).ve (pa_cons (pv 0) (pa_cons pe_str pa_nil)))) (pss_one (ps_xst (Bk.ok .ve) (pv 0) (pv 1))), ?_⟩
    refine ⟨_, rfl, a, _, _, rfl, (by decide), (oxB_ok (k := .ve) (c := "InvalidState") (exf T 10)).oex, ha, ?_⟩
    exact ⟨_, rfl, _, rfl, a, _, rfl, (oxB_ok (k := .ve) (c := "InvalidState") (exf T 10)).oex, (eqI_of (exf T 89)), .inl ⟨ha, q⟩⟩
theorem fd_x_InvalidText (T : Tx tab exK fns K mg w) : ∃ fd, FunD K "__init__" "InvalidText.__init__" (defArgs s_x_InvalidText) (defBody s_x_InvalidText) (defScope s_x_InvalidText) [] [] (maS K "InvalidText" "__init__") fd ∧ FnOk P w K mg base CX0 1 (maS K "InvalidText" "__init__") fd ["self", "line"] (spX (GG T) "InvalidText" ["line"]) := by
  obtain ⟨fd, F⟩ := T.c.def_ 18
  refine ⟨fd, F, fund_ok0 F sc_x_InvalidText (fun vs H Q E h => ?_) (fun cdv A outer s H vs Q E hr h => ?_)⟩
  · obtain ⟨a, v0, rfl, _⟩ := h
    rfl
  · obtain ⟨a, v0, rfl, ha, q⟩ := h
    refine ⟨_, pss_cons (ps_expr (pe_xinit (pl := _) (Bk.ok .ve) (by rfl) (T.bl 5) (oxB_ok (k := .ve) (c := "InvalidText") (exf T 9)).ve (pa_cons (pv 0) (pa_cons pe_str pa_nil)))) (pss_one (ps_xst (Bk.ok .ve) (pv 0) (pv 1))), ?_⟩
    refine ⟨_, rfl, a, _, _, rfl, (by decide), (oxB_ok (k := .ve) (c := "InvalidText") (exf T 9)).oex, ha, ?_⟩
    exact ⟨_, rfl, _, rfl, a, _, rfl, (oxB_ok (k := .ve) (c := "InvalidText") (exf T 9)).oex, (eqI_of (exf T 88)), .inl ⟨ha, q⟩⟩
theorem fd_x_InvalidRatio (T : Tx tab exK fns K mg w) : ∃ fd, FunD K "__init__" "InvalidRatio.__init__" (defArgs s_x_InvalidRatio) (defBody s_x_InvalidRatio) (defScope s_x_InvalidRatio) [] [] (maS K "InvalidRatio" "__init__") fd ∧ FnOk P w K mg base CX0 1 (maS K "InvalidRatio" "__init__") fd ["self", "value"] (spX (GG T) "InvalidRatio" ["value"]) := by
  obtain ⟨fd, F⟩ := T.c.def_ 25
  refine ⟨fd, F, fund_ok0 F sc_x_InvalidRatio (fun vs H Q E h => ?_) (fun cdv A outer s H vs Q E hr h => ?_)⟩
  · obtain ⟨a, v0, rfl, _⟩ := h
    rfl
  · obtain ⟨a, v0, rfl, ha, q⟩ := h
    refine ⟨_, pss_cons (ps_expr (pe_xinit (pl := _) (Bk.ok .ve) (by rfl) (T.bl 5) (oxB_ok (k := .ve) (c := "InvalidRatio") (exf T 16)).ve (pa_cons (pv 0) (pa_cons pe_str pa_nil)))) (pss_one (ps_xst (Bk.ok .ve) (pv 0) (pv 1))), ?_⟩
    refine ⟨_, rfl, a, _, _, rfl, (by decide), (oxB_ok (k := .ve) (c := "InvalidRatio") (exf T 16)).oex, ha, ?_⟩
    exact ⟨_, rfl, _, rfl, a, _, rfl, (oxB_ok (k := .ve) (c := "InvalidRatio") (exf T 16)).oex, (eqI_of (exf T 95)), .inl ⟨ha, q⟩⟩
theorem fd_x_InvalidRows (T : Tx tab exK fns K mg w) : ∃ fd, FunD K "__init__" "InvalidRows.__init__" (defArgs s_x_InvalidRows) (defBody s_x_InvalidRows) (defScope s_x_InvalidRows) [] [] (maS K "InvalidRows" "__init__") fd ∧ FnOk P w K mg base CX0 1 (maS K "InvalidRows" "__init__") fd ["self", "value"] (spX (GG T) "InvalidRows" ["value"]) := by
  obtain ⟨fd, F⟩ := T.c.def_ 24
  refine ⟨fd, F, fund_ok0 F sc_x_InvalidRows (fun vs H Q E h => ?_) (fun cdv A outer s H vs Q E hr h => ?_)⟩
  · obtain ⟨a, v0, rfl, _⟩ := h
    rfl
  · obtain ⟨a, v0, rfl, ha, q⟩ := h
    refine ⟨_, pss_cons (ps_expr (pe_xinit (pl := _) (Bk.ok .ve) (by rfl) (T.bl 5) (oxB_ok (k := .ve) (c := "InvalidRows") (exf T 15)).ve (pa_cons (pv 0) (pa_cons pe_str pa_nil)))) (pss_one (ps_xst (Bk.ok .ve) (pv 0) (pv 1))), ?_⟩
    refine ⟨_, rfl, a, _, _, rfl, (by decide), (oxB_ok (k := .ve) (c := "InvalidRows") (exf T 15)).oex, ha, ?_⟩
    exact ⟨_, rfl, _, rfl, a, _, rfl, (oxB_ok (k := .ve) (c := "InvalidRows") (exf T 15)).oex, (eqI_of (exf T 94)), .inl ⟨ha, q⟩⟩
theorem fd_x_InvalidForm (T : Tx tab exK fns K mg w) : ∃ fd, FunD K "__init__" "InvalidForm.__init__" (defArgs s_x_InvalidForm) (defBody s_x_InvalidForm) (defScope s_x_InvalidForm) [] [] (maS K "InvalidForm" "__init__") fd ∧ FnOk P w K mg base CX0 1 (maS K "InvalidForm" "__init__") fd ["self", "value"] (spX (GG T) "InvalidForm" ["value"]) := by
  obtain ⟨fd, F⟩ := T.c.def_ 23
  refine ⟨fd, F, fund_ok0 F sc_x_InvalidForm (fun vs H Q E h => ?_) (fun cdv A outer s H vs Q E hr h => ?_)⟩
  · obtain ⟨a, v0, rfl, _⟩ := h
    rfl
  · obtain ⟨a, v0, rfl, ha, q⟩ := h
    refine ⟨_, pss_cons (ps_expr (pe_xinit (pl := _) (Bk.ok .ve) (by rfl) (T.bl 5) (oxB_ok (k := .ve) (c := "InvalidForm") (exf T 14)).ve (pa_cons (pv 0) (pa_cons pe_str pa_nil)))) (pss_one (ps_xst (Bk.ok .ve) (pv 0) (pv 1))), ?_⟩
    refine ⟨_, rfl, a, _, _, rfl, (by decide), (oxB_ok (k := .ve) (c := "InvalidForm") (exf T 14)).oex, ha, ?_⟩
    exact ⟨_, rfl, _, rfl, a, _, rfl, (oxB_ok (k := .ve) (c := "InvalidForm") (exf T 14)).oex, (eqI_of (exf T 93)), .inl ⟨ha, q⟩⟩
theorem fd_x_InvalidPieces (T : Tx tab exK fns K mg w) : ∃ fd, FunD K "__init__" "InvalidPieces.__init__" (defArgs s_x_InvalidPieces) (defBody s_x_InvalidPieces) (defScope s_x_InvalidPieces) [] [] (maS K "InvalidPieces" "__init__") fd ∧ FnOk P w K mg base CX0 1 (maS K "InvalidPieces" "__init__") fd ["self", "number"] (spX (GG T) "InvalidPieces" ["number"]) := by
  obtain ⟨fd, F⟩ := T.c.def_ 28
  refine ⟨fd, F, fund_ok0 F sc_x_InvalidPieces (fun vs H Q E h => ?_) (fun cdv A outer s H vs Q E hr h => ?_)⟩
  · obtain ⟨a, v0, rfl, _⟩ := h
    rfl
  · obtain ⟨a, v0, rfl, ha, q⟩ := h
    refine ⟨_, pss_cons (ps_expr (pe_xinit (pl := _) (Bk.ok .ve) (by rfl) (T.bl 5) (oxB_ok (k := .ve) (c := "InvalidPieces") (exf T 19)).ve (pa_cons (pv 0) (pa_cons pe_str pa_nil)))) (pss_one (ps_xst (Bk.ok .ve) (pv 0) (pv 1))), ?_⟩
    refine ⟨_, rfl, a, _, _, rfl, (by decide), (oxB_ok (k := .ve) (c := "InvalidPieces") (exf T 19)).oex, ha, ?_⟩
    exact ⟨_, rfl, _, rfl, a, _, rfl, (oxB_ok (k := .ve) (c := "InvalidPieces") (exf T 19)).oex, (eqI_of (exf T 98)), .inl ⟨ha, q⟩⟩
theorem fd_x_InvalidCommand (T : Tx tab exK fns K mg w) : ∃ fd, FunD K "__init__" "InvalidCommand.__init__" (defArgs s_x_InvalidCommand) (defBody s_x_InvalidCommand) (defScope s_x_InvalidCommand) [] [] (maS K "InvalidCommand" "__init__") fd ∧ FnOk P w K mg base CX0 1 (maS K "InvalidCommand" "__init__") fd ["self", "word"] (spX (GG T) "InvalidCommand" ["word"]) := by
  obtain ⟨fd, F⟩ := T.c.def_ 27
  refine ⟨fd, F, fund_ok0 F sc_x_InvalidCommand (fun vs H Q E h => ?_) (fun cdv A outer s H vs Q E hr h => ?_)⟩
  · obtain ⟨a, v0, rfl, _⟩ := h
    rfl
  · obtain ⟨a, v0, rfl, ha, q⟩ := h
    refine ⟨_, pss_cons (ps_expr (pe_xinit (pl := _) (Bk.ok .ve) (by rfl) (T.bl 5) (oxB_ok (k := .ve) (c := "InvalidCommand") (exf T 18)).ve (pa_cons (pv 0) (pa_cons pe_str pa_nil)))) (pss_one (ps_xst (Bk.ok .ve) (pv 0) (pv 1))), ?_⟩
    refine ⟨_, rfl, a, _, _, rfl, (by decide), (oxB_ok (k := .ve) (c := "InvalidCommand") (exf T 18)).oex, ha, ?_⟩
    exact ⟨_, rfl, _, rfl, a, _, rfl, (oxB_ok (k := .ve) (c := "InvalidCommand") (exf T 18)).oex, (eqI_of (exf T 97)), .inl ⟨ha, q⟩⟩
theorem fd_x_InvalidSign (T : Tx tab exK fns K mg w) : ∃ fd, FunD K "__init__" "InvalidSign.__init__" (defArgs s_x_InvalidSign) (defBody s_x_InvalidSign) (defScope s_x_InvalidSign) [] [] (maS K "InvalidSign" "__init__") fd ∧ FnOk P w K mg base CX0 1 (maS K "InvalidSign" "__init__") fd ["self", "value"] (spX (GG T) "InvalidSign" ["value"]) := by
  obtain ⟨fd, F⟩ := T.c.def_ 22
  refine ⟨fd, F, fund_ok0 F sc_x_InvalidSign (fun vs H Q E h => ?_) (fun cdv A outer s H vs Q E hr h => ?_)⟩
  · obtain ⟨a, v0, rfl, _⟩ := h
    rfl
  · obtain ⟨a, v0, rfl, ha, q⟩ := h
    refine ⟨_, pss_cons (ps_expr (pe_xinit (pl := _) (Bk.ok .ve) (by rfl) (T.bl 5) (oxB_ok (k := .ve) (c := "InvalidSign") (exf T 13)).ve (pa_cons (pv 0) (pa_cons pe_str pa_nil)))) (pss_one (ps_xst (Bk.ok .ve) (pv 0) (pv 1))), ?_⟩
    refine ⟨_, rfl, a, _, _, rfl, (by decide), (oxB_ok (k := .ve) (c := "InvalidSign") (exf T 13)).oex, ha, ?_⟩
    exact ⟨_, rfl, _, rfl, a, _, rfl, (oxB_ok (k := .ve) (c := "InvalidSign") (exf T 13)).oex, (eqI_of (exf T 92)), .inl ⟨ha, q⟩⟩
theorem fd_x_InvalidMachine (T : Tx tab exK fns K mg w) : ∃ fd, FunD K "__init__" "InvalidMachine.__init__" (defArgs s_x_InvalidMachine) (defBody s_x_InvalidMachine) (defScope s_x_InvalidMachine) [] [] (maS K "InvalidMachine" "__init__") fd ∧ FnOk P w K mg base CX0 1 (maS K "InvalidMachine" "__init__") fd ["self", "value"] (spX (GG T) "InvalidMachine" ["value"]) := by
  obtain ⟨fd, F⟩ := T.c.def_ 29
  refine ⟨fd, F, fund_ok0 F sc_x_InvalidMachine (fun vs H Q E h => ?_) (fun cdv A outer s H vs Q E hr h => ?_)⟩
  · obtain ⟨a, v0, rfl, _⟩ := h
    rfl
  · obtain ⟨a, v0, rfl, ha, q⟩ := h
    refine ⟨_, pss_cons (ps_expr (pe_xinit (pl := _) (Bk.ok .ve) (by rfl) (T.bl 5) (oxB_ok (k := .ve) (c := "InvalidMachine") (exf T 20)).ve (pa_cons (pv 0) (pa_cons pe_str pa_nil)))) (pss_one (ps_xst (Bk.ok .ve) (pv 0) (pv 1))), ?_⟩
    refine ⟨_, rfl, a, _, _, rfl, (by decide), (oxB_ok (k := .ve) (c := "InvalidMachine") (exf T 20)).oex, ha, ?_⟩
    exact ⟨_, rfl, _, rfl, a, _, rfl, (oxB_ok (k := .ve) (c := "InvalidMachine") (exf T 20)).oex, (eqI_of (exf T 99)), .inl ⟨ha, q⟩⟩
theorem fd_x_UnknownName (T : Tx tab exK fns K mg w) : ∃ fd, FunD K "__init__" "UnknownName.__init__" (defArgs s_x_UnknownName) (defBody s_x_UnknownName) (defScope s_x_UnknownName) [] [] (maS K "UnknownName" "__init__") fd ∧ FnOk P w K mg base CX0 1 (maS K "UnknownName" "__init__") fd ["self", "value"] (spX (GG T) "UnknownName" ["value"]) := by
  obtain ⟨fd, F⟩ := T.c.def_ 26
  refine ⟨fd, F, fund_ok0 F sc_x_UnknownName (fun vs H Q E h => ?_) (fun cdv A outer s H vs Q E hr h => ?_)⟩
  · obtain ⟨a, v0, rfl, _⟩ := h
    rfl
  · obtain ⟨a, v0, rfl, ha, q⟩ := h
    refine ⟨_, pss_cons (ps_expr (pe_xinit (pl := _) (Bk.ok .le) (by rfl) (T.bl 4) (oxB_ok (k := .le) (c := "UnknownName") (exf T 17)).ve (pa_cons (pv 0) (pa_cons pe_str pa_nil)))) (pss_one (ps_xst (Bk.ok .le) (pv 0) (pv 1))), ?_⟩
    refine ⟨_, rfl, a, _, _, rfl, (by decide), (oxB_ok (k := .le) (c := "UnknownName") (exf T 17)).oex, ha, ?_⟩
    exact ⟨_, rfl, _, rfl, a, _, rfl, (oxB_ok (k := .le) (c := "UnknownName") (exf T 17)).oex, (eqI_of (exf T 96)), .inl ⟨ha, q⟩⟩
theorem fd_x_Endless (T : Tx tab exK fns K mg w) : ∃ fd, FunD K "__init__" "Endless.__init__" (defArgs s_x_Endless) (defBody s_x_Endless) (defScope s_x_Endless) [] [] (maS K "Endless" "__init__") fd ∧ FnOk P w K mg base CX0 1 (maS K "Endless" "__init__") fd ["self", "number"] (spX (GG T) "Endless" ["number"]) := by
  obtain ⟨fd, F⟩ := T.c.def_ 34
  refine ⟨fd, F, fund_ok0 F sc_x_Endless (fun vs H Q E h => ?_) (fun cdv A outer s H vs Q E hr h => ?_)⟩
  · obtain ⟨a, v0, rfl, _⟩ := h
    rfl
  · obtain ⟨a, v0, rfl, ha, q⟩ := h
    refine ⟨_, pss_cons (ps_expr (pe_xinit (pl := _) (Bk.ok .ae) (by rfl) (T.bl 3) (oxB_ok (k := .ae) (c := "Endless") (exf T 25)).ve (pa_cons (pv 0) (pa_cons pe_str pa_nil)))) (pss_one (ps_xst (Bk.ok .ae) (pv 0) (pv 1))), ?_⟩
    refine ⟨_, rfl, a, _, _, rfl, (by decide), (oxB_ok (k := .ae) (c := "Endless") (exf T 25)).oex, ha, ?_⟩
    exact ⟨_, rfl, _, rfl, a, _, rfl, (oxB_ok (k := .ae) (c := "Endless") (exf T 25)).oex, (eqI_of (exf T 104)), .inl ⟨ha, q⟩⟩
theorem fd_x_DivisionByZero (T : Tx tab exK fns K mg w) : ∃ fd, FunD K "__init__" "DivisionByZero.__init__" (defArgs s_x_DivisionByZero) (defBody s_x_DivisionByZero) (defScope s_x_DivisionByZero) [] [] (maS K "DivisionByZero" "__init__") fd ∧ FnOk P w K mg base CX0 1 (maS K "DivisionByZero" "__init__") fd ["self"] (spX (GG T) "DivisionByZero" []) := by
  obtain ⟨fd, F⟩ := T.c.def_ 33
  refine ⟨fd, F, fund_ok0 F sc_x_DivisionByZero (fun vs H Q E h => ?_) (fun cdv A outer s H vs Q E hr h => ?_)⟩
  · obtain ⟨a, rfl, _⟩ := h
    rfl
  · obtain ⟨a, rfl, ha, q⟩ := h
    refine ⟨_, pss_one (ps_expr (pe_xinit (pl := _) (Bk.ok .ae) (by rfl) (T.bl 3) (oxB_ok (k := .ae) (c := "DivisionByZero") (exf T 24)).ve (pa_cons (pv 0) (pa_cons pe_str pa_nil)))), ?_⟩
    exact ⟨_, rfl, a, _, _, rfl, (by decide), (oxB_ok (k := .ae) (c := "DivisionByZero") (exf T 24)).oex, ha, q⟩
theorem fd_x_Parted (T : Tx tab exK fns K mg w) : ∃ fd, FunD K "__init__" "Parted.__init__" (defArgs s_x_Parted) (defBody s_x_Parted) (defScope s_x_Parted) [] [] (maS K "Parted" "__init__") fd ∧ FnOk P w K mg base CX0 1 (maS K "Parted" "__init__") fd ["self", "number"] (spX (GG T) "Parted" ["number"]) := by
  obtain ⟨fd, F⟩ := T.c.def_ 32
  refine ⟨fd, F, fund_ok0 F sc_x_Parted (fun vs H Q E h => ?_) (fun cdv A outer s H vs Q E hr h => ?_)⟩
  · obtain ⟨a, v0, rfl, _⟩ := h
    rfl
  · obtain ⟨a, v0, rfl, ha, q⟩ := h
    refine ⟨_, pss_cons (ps_expr (pe_xinit (pl := _) (Bk.ok .re) (by rfl) (T.bl 7) (oxB_ok (k := .re) (c := "Parted") (exf T 23)).ve (pa_cons (pv 0) (pa_cons pe_str pa_nil)))) (pss_one (ps_xst (Bk.ok .re) (pv 0) (pv 1))), ?_⟩
    refine ⟨_, rfl, a, _, _, rfl, (by decide), (oxB_ok (k := .re) (c := "Parted") (exf T 23)).oex, ha, ?_⟩
    exact ⟨_, rfl, _, rfl, a, _, rfl, (oxB_ok (k := .re) (c := "Parted") (exf T 23)).oex, (eqI_of (exf T 103)), .inl ⟨ha, q⟩⟩
theorem fd_x_Unlike (T : Tx tab exK fns K mg w) : ∃ fd, FunD K "__init__" "Unlike.__init__" (defArgs s_x_Unlike) (defBody s_x_Unlike) (defScope s_x_Unlike) [] [] (maS K "Unlike" "__init__") fd ∧ FnOk P w K mg base CX0 1 (maS K "Unlike" "__init__") fd ["self", "one", "other"] (spX (GG T) "Unlike" ["one", "other"]) := by
  obtain ⟨fd, F⟩ := T.c.def_ 31
  refine ⟨fd, F, fund_ok0 F sc_x_Unlike (fun vs H Q E h => ?_) (fun cdv A outer s H vs Q E hr h => ?_)⟩
  · obtain ⟨a, v0, v1, rfl, _⟩ := h
    rfl
  · obtain ⟨a, v0, v1, rfl, ha, q⟩ := h
    refine ⟨_, pss_cons (ps_expr (pe_xinit (pl := _) (Bk.ok .re) (by rfl) (T.bl 7) (oxB_ok (k := .re) (c := "Unlike") (exf T 22)).ve (pa_cons (pv 0) (pa_cons pe_str pa_nil)))) (pss_cons (ps_xst (Bk.ok .re) (pv 0) (pv 1)) (pss_one (ps_xst (Bk.ok .re) (pv 0) (pv 2)))), ?_⟩
    refine ⟨_, rfl, a, _, _, rfl, (by decide), (oxB_ok (k := .re) (c := "Unlike") (exf T 22)).oex, ha, ?_⟩
    refine ⟨_, rfl, _, rfl, a, _, rfl, (oxB_ok (k := .re) (c := "Unlike") (exf T 22)).oex, (eqI_of (exf T 101)), .inl ⟨ha, fun dx hd ne => ?_⟩⟩
    refine ⟨_, rfl, _, rfl, a, _, rfl, (oxB_ok (k := .re) (c := "Unlike") (exf T 22)).oex, (eqI_of (exf T 102)), .inr ⟨dx, _, upd_same, by rw [upd_ne ne, upd_same], by simp, q dx hd ne⟩⟩
theorem fd_x_Broken (T : Tx tab exK fns K mg w) : ∃ fd, FunD K "__init__" "Broken.__init__" (defArgs s_x_Broken) (defBody s_x_Broken) (defScope s_x_Broken) [] [] (maS K "Broken" "__init__") fd ∧ FnOk P w K mg base CX0 1 (maS K "Broken" "__init__") fd ["self", "number"] (spX (GG T) "Broken" ["number"]) := by
  obtain ⟨fd, F⟩ := T.c.def_ 30
  refine ⟨fd, F, fund_ok0 F sc_x_Broken (fun vs H Q E h => ?_) (fun cdv A outer s H vs Q E hr h => ?_)⟩
  · obtain ⟨a, v0, rfl, _⟩ := h
    rfl
  · obtain ⟨a, v0, rfl, ha, q⟩ := h
    refine ⟨_, pss_cons (ps_expr (pe_xinit (pl := _) (Bk.ok .re) (by rfl) (T.bl 7) (oxB_ok (k := .re) (c := "Broken") (exf T 21)).ve (pa_cons (pv 0) (pa_cons pe_str pa_nil)))) (pss_one (ps_xst (Bk.ok .re) (pv 0) (pv 1))), ?_⟩
    refine ⟨_, rfl, a, _, _, rfl, (by decide), (oxB_ok (k := .re) (c := "Broken") (exf T 21)).oex, ha, ?_⟩
    exact ⟨_, rfl, _, rfl, a, _, rfl, (oxB_ok (k := .re) (c := "Broken") (exf T 21)).oex, (eqI_of (exf T 100)), .inl ⟨ha, q⟩⟩
theorem fd_x_Guarded (T : Tx tab exK fns K mg w) : ∃ fd, FunD K "__init__" "Guarded.__init__" (defArgs s_x_Guarded) (defBody s_x_Guarded) (defScope s_x_Guarded) [] [] (maS K "Guarded" "__init__") fd ∧ FnOk P w K mg base CX0 1 (maS K "Guarded" "__init__") fd ["self", "condition", "number"] (spX (GG T) "Guarded" ["condition", "number"]) := by
  obtain ⟨fd, F⟩ := T.c.def_ 39
  refine ⟨fd, F, fund_ok0 F sc_x_Guarded (fun vs H Q E h => ?_) (fun cdv A outer s H vs Q E hr h => ?_)⟩
  · obtain ⟨a, v0, v1, rfl, _⟩ := h
    rfl
  · obtain ⟨a, v0, v1, rfl, ha, q⟩ := h
    refine ⟨_, pss_cons (ps_expr (pe_xinit (pl := _) (Bk.ok .re) (by rfl) (T.bl 7) (oxB_ok (k := .re) (c := "Guarded") (exf T 30)).ve (pa_cons (pv 0) (pa_cons pe_str pa_nil)))) (pss_cons (ps_xst (Bk.ok .re) (pv 0) (pv 1)) (pss_one (ps_xst (Bk.ok .re) (pv 0) (pv 2)))), ?_⟩
    refine ⟨_, rfl, a, _, _, rfl, (by decide), (oxB_ok (k := .re) (c := "Guarded") (exf T 30)).oex, ha, ?_⟩
    refine ⟨_, rfl, _, rfl, a, _, rfl, (oxB_ok (k := .re) (c := "Guarded") (exf T 30)).oex, (eqI_of (exf T 106)), .inl ⟨ha, fun dx hd ne => ?_⟩⟩
    refine ⟨_, rfl, _, rfl, a, _, rfl, (oxB_ok (k := .re) (c := "Guarded") (exf T 30)).oex, (eqI_of (exf T 107)), .inr ⟨dx, _, upd_same, by rw [upd_ne ne, upd_same], by simp, q dx hd ne⟩⟩
theorem fd_x_NothingToUndo (T : Tx tab exK fns K mg w) : ∃ fd, FunD K "__init__" "NothingToUndo.__init__" (defArgs s_x_NothingToUndo) (defBody s_x_NothingToUndo) (defScope s_x_NothingToUndo) [] [] (maS K "NothingToUndo" "__init__") fd ∧ FnOk P w K mg base CX0 1 (maS K "NothingToUndo" "__init__") fd ["self"] (spX (GG T) "NothingToUndo" []) := by
  obtain ⟨fd, F⟩ := T.c.def_ 38
  refine ⟨fd, F, fund_ok0 F sc_x_NothingToUndo (fun vs H Q E h => ?_) (fun cdv A outer s H vs Q E hr h => ?_)⟩
  · obtain ⟨a, rfl, _⟩ := h
    rfl
  · obtain ⟨a, rfl, ha, q⟩ := h
    refine ⟨_, pss_one (ps_expr (pe_xinit (pl := _) (Bk.ok .re) (by rfl) (T.bl 7) (oxB_ok (k := .re) (c := "NothingToUndo") (exf T 29)).ve (pa_cons (pv 0) (pa_cons pe_str pa_nil)))), ?_⟩
    exact ⟨_, rfl, a, _, _, rfl, (by decide), (oxB_ok (k := .re) (c := "NothingToUndo") (exf T 29)).oex, ha, q⟩
theorem fd_x_NothingToRedo (T : Tx tab exK fns K mg w) : ∃ fd, FunD K "__init__" "NothingToRedo.__init__" (defArgs s_x_NothingToRedo) (defBody s_x_NothingToRedo) (defScope s_x_NothingToRedo) [] [] (maS K "NothingToRedo" "__init__") fd ∧ FnOk P w K mg base CX0 1 (maS K "NothingToRedo" "__init__") fd ["self"] (spX (GG T) "NothingToRedo" []) := by
  obtain ⟨fd, F⟩ := T.c.def_ 37
  refine ⟨fd, F, fund_ok0 F sc_x_NothingToRedo (fun vs H Q E h => ?_) (fun cdv A outer s H vs Q E hr h => ?_)⟩
  · obtain ⟨a, rfl, _⟩ := h
    rfl
  · obtain ⟨a, rfl, ha, q⟩ := h
    refine ⟨_, pss_one (ps_expr (pe_xinit (pl := _) (Bk.ok .re) (by rfl) (T.bl 7) (oxB_ok (k := .re) (c := "NothingToRedo") (exf T 28)).ve (pa_cons (pv 0) (pa_cons pe_str pa_nil)))), ?_⟩
    exact ⟨_, rfl, a, _, _, rfl, (by decide), (oxB_ok (k := .re) (c := "NothingToRedo") (exf T 28)).oex, ha, q⟩
theorem fd_x_NoTrial (T : Tx tab exK fns K mg w) : ∃ fd, FunD K "__init__" "NoTrial.__init__" (defArgs s_x_NoTrial) (defBody s_x_NoTrial) (defScope s_x_NoTrial) [] [] (maS K "NoTrial" "__init__") fd ∧ FnOk P w K mg base CX0 1 (maS K "NoTrial" "__init__") fd ["self"] (spX (GG T) "NoTrial" []) := by
  obtain ⟨fd, F⟩ := T.c.def_ 36
  refine ⟨fd, F, fund_ok0 F sc_x_NoTrial (fun vs H Q E h => ?_) (fun cdv A outer s H vs Q E hr h => ?_)⟩
  · obtain ⟨a, rfl, _⟩ := h
    rfl
  · obtain ⟨a, rfl, ha, q⟩ := h
    refine ⟨_, pss_one (ps_expr (pe_xinit (pl := _) (Bk.ok .re) (by rfl) (T.bl 7) (oxB_ok (k := .re) (c := "NoTrial") (exf T 27)).ve (pa_cons (pv 0) (pa_cons pe_str pa_nil)))), ?_⟩
    exact ⟨_, rfl, a, _, _, rfl, (by decide), (oxB_ok (k := .re) (c := "NoTrial") (exf T 27)).oex, ha, q⟩
theorem fd_x_LimitExceeded (T : Tx tab exK fns K mg w) : ∃ fd, FunD K "__init__" "LimitExceeded.__init__" (defArgs s_x_LimitExceeded) (defBody s_x_LimitExceeded) (defScope s_x_LimitExceeded) [] [] (maS K "LimitExceeded" "__init__") fd ∧ FnOk P w K mg base CX0 1 (maS K "LimitExceeded" "__init__") fd ["self", "most"] (spX (GG T) "LimitExceeded" ["most"]) := by
  obtain ⟨fd, F⟩ := T.c.def_ 35
  refine ⟨fd, F, fund_ok0 F sc_x_LimitExceeded (fun vs H Q E h => ?_) (fun cdv A outer s H vs Q E hr h => ?_)⟩
  · obtain ⟨a, v0, rfl, _⟩ := h
    rfl
  · obtain ⟨a, v0, rfl, ha, q⟩ := h
    refine ⟨_, pss_cons (ps_expr (pe_xinit (pl := _) (Bk.ok .oe) (by rfl) (T.bl 6) (oxB_ok (k := .oe) (c := "LimitExceeded") (exf T 26)).ve (pa_cons (pv 0) (pa_cons pe_str pa_nil)))) (pss_one (ps_xst (Bk.ok .oe) (pv 0) (pv 1))), ?_⟩
    refine ⟨_, rfl, a, _, _, rfl, (by decide), (oxB_ok (k := .oe) (c := "LimitExceeded") (exf T 26)).oex, ha, ?_⟩
    exact ⟨_, rfl, _, rfl, a, _, rfl, (oxB_ok (k := .oe) (c := "LimitExceeded") (exf T 26)).oex, (eqI_of (exf T 105)), .inl ⟨ha, q⟩⟩
noncomputable abbrev b_l_pool : MS := (mSeq (mAsg (mC (.int 0)) (gN 2))
      (mSeq (mIfS (mTst (mBin oLt (mVar 1) (mCB oLen (mCons (mVar 0) mNil)))) (mAsg (mBin oIx (mVar 0) (mVar 1)) (gN 2)) mSkip)
      (mSeq (mAsg (mBin oMod (mBin oPow (mBin oAdd (mBin oAdd (mBin oMod (mCB oInt (mCons (mVar 2) mNil)) (mC (.int 2147483629))) (mBin oMul (mBin oMul (mC (.int 7919)) (mVar 1)) (mVar 1))) (mC (.int 31))) (mC (.int 3))) (mC (.int 2147483647))) (gN 3))
      (mSeq (mIfS (mTst (mBin oLt (mVar 2) (mBin oPow (mC (.int 10)) (mC (.int 18))))) (mAsg (mC (.int 0)) (gN 2)) mSkip)
      (mRet (mLstC (mCons (mVar 2) (mCons (mVar 3) mNil))))))))
noncomputable def m_l_pool : MF := mFun 2 4 b_l_pool
theorem ok_l_pool (T : Tx tab exK fns K mg w) : OkB P w K mg base 1 (gaS K "_law_pool") ["_law_script", "_law_k"] [] (spM (GG T) m_l_pool) :=
  okb_mk (T.c.def_ 0) (fun _ _ _ _ _ _ us hl => match us, hl with | [_, _], _ => rfl) fun fd F => fn_m (G := (GG T)) F sc_l_pool rfl (jvG T) fun cdv A outer s H E hr =>
    have tk : Takes (cxOf (L2.CX P w) P w K mg base n_l_pool "_law_pool" (defScope s_l_pool) (gaS K "_law_pool") cdv A outer s H E) (fun cls d _ H' => E cls d H') := takes_of rfl rfl rfl rfl
    (dss_cons (ds_set (i := 2) (stbG T) (fun p => ps_set (i := 2) sc_l_pool.nd rfl (Or.inl rfl) p) de_int)
      (dss_cons (ds_if (dt_cmp op_lt sim_lt (de_v (pv 1)) (de_cb (id := "len") (cr_len rfl) sim_len (by rfl) (T.bl 0) (by decide +kernel) (da_cons (de_v (pv 0)) da_nil)) (nomark _)) (dss_one (ds_set (i := 2) (stbG T) (fun p => ps_set (i := 2) sc_l_pool.nd rfl (Or.inl rfl) p) (de_ix rfl (de_v (pv 0)) (de_v (pv 1)) (fun _ _ => rfl)))) dss_nil)
      (dss_cons (ds_set (i := 3) (stbG T) (fun p => ps_set (i := 3) sc_l_pool.nd rfl (Or.inl rfl) p) (de_op op_modN sim_mod (de_op op_pow sim_pow (de_op (op_adds rfl) sim_add (de_op (op_adds rfl) sim_add (de_op op_modN sim_mod (de_ct (T := "int") call_int1 sim_int (by rfl) (T.bl 1) (by decide +kernel) (da_cons (de_v (pv 2)) da_nil)) de_int) (de_op op_muls sim_mul (de_op op_muls sim_mul de_int (de_v (pv 1))) (de_v (pv 1)))) de_int) de_int) de_int))
      (dss_cons (ds_if (dt_cmp op_lt sim_lt (de_v (pv 2)) (de_op op_pow sim_pow de_int de_int) (nomark _)) (dss_one (ds_set (i := 2) (stbG T) (fun p => ps_set (i := 2) sc_l_pool.nd rfl (Or.inl rfl) p) de_int)) dss_nil)
      (dss_one (ds_ret (de_lstC (da_cons (de_v (pv 2)) (da_cons (de_v (pv 3)) da_nil)))))))))
noncomputable abbrev b_l_draw : MS := (mSeq (mIfS (mTst (mBin oGt (mBin oIx (mVar 0) (mC (.int 0))) (mC (.int 0)))) (mSeq (mAsg (mBin oMod (mCB oInt (mCons (mBin oIx (mVar 0) (mC (.int 0))) mNil)) (mVar 1)) (gN 2))
      (mSeq (mSetI (mVar 0) (mC (.int 0)) (mBin oFdiv (mBin oIx (mVar 0) (mC (.int 0))) (mVar 1)))
      (mRet (mVar 2)))) mSkip)
      (mSeq (mSetI (mVar 0) (mC (.int 1)) (mBin oMod (mCB oInt (mCons (mBin oAdd (mBin oMul (mBin oIx (mVar 0) (mC (.int 1))) (mC (.int 48271))) (mC (.int 11))) mNil)) (mC (.int 2147483647))))
      (mRet (mBin oMod (mBin oFdiv (mBin oMod (mCB oInt (mCons (mBin oMul (mBin oIx (mVar 0) (mC (.int 1))) (mBin oIx (mVar 0) (mC (.int 1)))) mNil)) (mC (.int 2147483629))) (mC (.int 64))) (mVar 1)))))
noncomputable def m_l_draw : MF := mFun 2 3 b_l_draw
theorem ok_l_draw (T : Tx tab exK fns K mg w) : OkB P w K mg base 1 (gaS K "_law_draw") ["_law_pool_here", "_law_many"] [] (spM (GG T) m_l_draw) :=
  okb_mk (T.c.def_ 1) (fun _ _ _ _ _ _ us hl => match us, hl with | [_, _], _ => rfl) fun fd F => fn_m (G := (GG T)) F sc_l_draw rfl (jvG T) fun cdv A outer s H E hr =>
    have tk : Takes (cxOf (L2.CX P w) P w K mg base n_l_draw "_law_draw" (defScope s_l_draw) (gaS K "_law_draw") cdv A outer s H E) (fun cls d _ H' => E cls d H') := takes_of rfl rfl rfl rfl
    (dss_cons (ds_if (dt_cmp op_gt sim_gt (de_ix rfl (de_v (pv 0)) de_int (fun _ _ => rfl)) de_int (nomark _)) (dss_cons (ds_set (i := 2) (stbG T) (fun p => ps_set (i := 2) sc_l_draw.nd rfl (Or.inl rfl) p) (de_op op_modN sim_mod (de_ct (T := "int") call_int1 sim_int (by rfl) (T.bl 1) (by decide +kernel) (da_cons (de_ix rfl (de_v (pv 0)) de_int (fun _ _ => rfl)) da_nil)) (de_v (pv 1))))
      (dss_cons (ds_setI (de_v (pv 0)) de_int (de_op op_fdivX sim_fdiv (de_ix rfl (de_v (pv 0)) de_int (fun _ _ => rfl)) (de_v (pv 1))) (fun p x y => ps_asg p (pg_sub x y set_list)))
      (dss_one (ds_ret (de_v (pv 2)))))) dss_nil)
      (dss_cons (ds_setI (de_v (pv 0)) de_int (de_op op_modN sim_mod (de_ct (T := "int") call_int1 sim_int (by rfl) (T.bl 1) (by decide +kernel) (da_cons (de_op (op_adds rfl) sim_add (de_op op_muls sim_mul (de_ix rfl (de_v (pv 0)) de_int (fun _ _ => rfl)) de_int) de_int) da_nil)) de_int) (fun p x y => ps_asg p (pg_sub x y set_list)))
      (dss_one (ds_ret (de_op op_modN sim_mod (de_op op_fdivX sim_fdiv (de_op op_modN sim_mod (de_ct (T := "int") call_int1 sim_int (by rfl) (T.bl 1) (by decide +kernel) (da_cons (de_op op_muls sim_mul (de_ix rfl (de_v (pv 0)) de_int (fun _ _ => rfl)) (de_ix rfl (de_v (pv 0)) de_int (fun _ _ => rfl))) da_nil)) de_int) de_int) (de_v (pv 1)))))))
noncomputable abbrev b_l_choose : MS := (mRet (mBin oIx (mVar 1) (mCall (withD [] m_l_draw) (mCons (mVar 0) (mCons (mCB oLen (mCons (mVar 1) mNil)) mNil)))))
noncomputable def m_l_choose : MF := mFun 2 2 b_l_choose
theorem ok_l_choose (T : Tx tab exK fns K mg w) : OkB P w K mg base 2 (gaS K "_law_choose") ["_law_pool_here", "_law_items"] [] (spM (GG T) m_l_choose) :=
  okb_mk (T.c.def_ 2) (fun _ _ _ _ _ _ us hl => match us, hl with | [_, _], _ => rfl) fun fd F => fn_m (G := (GG T)) F sc_l_choose rfl (jvG T) fun cdv A outer s H E hr =>
    have tk : Takes (cxOf (L2.CX P w) P w K mg base n_l_choose "_law_choose" (defScope s_l_choose) (gaS K "_law_choose") cdv A outer s H E) (fun cls d _ H' => E cls d H') := takes_of rfl rfl rfl rfl
    (dss_one (ds_ret (de_ix rfl (de_v (pv 1)) (ck_call (ok_l_draw T) dfl_nil (hr.mono (by decide)) (by rfl) (T.gl 0) tk (da_cons (de_v (pv 0)) (da_cons (de_cb (id := "len") (cr_len rfl) sim_len (by rfl) (T.bl 0) (by decide +kernel) (da_cons (de_v (pv 1)) da_nil)) da_nil))) (fun _ _ => rfl))))
noncomputable abbrev b_l_made : MS := (mSeq (mAsg (mLst (mCons (mExcV "InvalidRule" ["value"] (mCons (mVar 0) mNil)) (mCons (mExcV "InvalidNumber" ["value"] (mCons (mVar 0) mNil)) (mCons (mExcV "InvalidBase" ["value"] (mCons (mVar 0) mNil)) (mCons (mExcV "InvalidName" ["value"] (mCons (mVar 0) mNil)) (mCons (mExcV "InvalidRegisters" ["number"] (mCons (mVar 0) mNil)) mNil)))))) (gN 1))
      (mSeq (mAsg (mBin oAdd (mVar 1) (mLst (mCons (mExcV "InvalidModes" ["number"] (mCons (mVar 0) mNil)) (mCons (mExcV "InvalidRow" ["mode", "number"] (mCons (mVar 0) (mCons (mC (.str (Str.ofString "second"))) mNil))) (mCons (mExcV "InvalidEnds" ["value"] (mCons (mVar 0) mNil)) (mCons (mExcV "InvalidResult" ["value"] (mCons (mVar 0) mNil)) mNil)))))) (gN 1))
      (mSeq (mAsg (mBin oAdd (mVar 1) (mLst (mCons (mExcV "InvalidProgram" ["value"] (mCons (mVar 0) mNil)) (mCons (mExcV "InvalidFigures" ["value"] (mCons (mVar 0) mNil)) (mCons (mExcV "InvalidState" ["value"] (mCons (mVar 0) mNil)) (mCons (mExcV "InvalidText" ["line"] (mCons (mVar 0) mNil)) mNil)))))) (gN 1))
      (mSeq (mAsg (mBin oAdd (mVar 1) (mLst (mCons (mExcV "InvalidRatio" ["value"] (mCons (mVar 0) mNil)) (mCons (mExcV "InvalidRows" ["value"] (mCons (mVar 0) mNil)) (mCons (mExcV "InvalidForm" ["value"] (mCons (mVar 0) mNil)) (mCons (mExcV "InvalidSign" ["value"] (mCons (mVar 0) mNil)) mNil)))))) (gN 1))
      (mSeq (mAsg (mBin oAdd (mVar 1) (mLst (mCons (mExcV "InvalidMachine" ["value"] (mCons (mVar 0) mNil)) (mCons (mExcV "InvalidPieces" ["number"] (mCons (mVar 0) mNil)) (mCons (mExcV "InvalidCommand" ["word"] (mCons (mVar 0) mNil)) (mCons (mExcV "UnknownName" ["value"] (mCons (mVar 0) mNil)) mNil)))))) (gN 1))
      (mSeq (mAsg (mBin oAdd (mVar 1) (mLst (mCons (mExcV "Endless" ["number"] (mCons (mVar 0) mNil)) (mCons (mExcK "DivisionByZero" [] id mNil) (mCons (mExcV "Parted" ["number"] (mCons (mVar 0) mNil)) (mCons (mExcV "Unlike" ["one", "other"] (mCons (mVar 0) (mCons (mC (.str (Str.ofString "second"))) mNil))) (mCons (mExcV "Broken" ["number"] (mCons (mVar 0) mNil)) mNil))))))) (gN 1))
      (mRet (mBin oAdd (mVar 1) (mLst (mCons (mExcV "Guarded" ["condition", "number"] (mCons (mVar 0) (mCons (mC (.str (Str.ofString "second"))) mNil))) (mCons (mExcK "NothingToUndo" [] id mNil) (mCons (mExcK "NothingToRedo" [] id mNil) (mCons (mExcK "NoTrial" [] id mNil) (mCons (mExcV "LimitExceeded" ["most"] (mCons (mVar 0) mNil)) mNil))))))))))))))
noncomputable def m_l_made : MF := mFun 1 2 b_l_made
theorem ok_l_made (T : Tx tab exK fns K mg w) : OkB P w K mg base 3 (gaS K "_law_made") ["_law_held"] [] (spM (GG T) m_l_made) :=
  okb_mk (T.c.def_ 3) (fun _ _ _ _ _ _ us hl => match us, hl with | [_], _ => rfl) fun fd F => fn_m (G := (GG T)) F sc_l_made rfl (jvG T) fun cdv A outer s H E hr =>
    have tk : Takes (cxOf (L2.CX P w) P w K mg base n_l_made "_law_made" (defScope s_l_made) (gaS K "_law_made") cdv A outer s H E) (fun cls d _ H' => E cls d H') := takes_of rfl rfl rfl rfl
    (dss_cons (ds_set (i := 1) (stbG T) (fun p => ps_set (i := 1) sc_l_made.nd rfl (Or.inl rfl) p) (de_lst (da_cons (de_excV (c := "InvalidRule") (fls := ["value"]) (Bk.ok .ve) (oxB_ok (k := .ve) (c := "InvalidRule") (exf T 4)).oex (oxB_ok (k := .ve) (c := "InvalidRule") (exf T 4)).iC (oxB_ok (k := .ve) (c := "InvalidRule") (exf T 4)).tI (fd_x_InvalidRule T).choose_spec.2 (hr.mono (by decide)) (kbn_of (fd_x_InvalidRule T).choose_spec.1 2 [] (fun us _ => us) (fun a _ => a) (fun _ _ _ _ _ _ us ws l1 l2 => match us, ws, l1, l2 with | [_, _], [], _, _ => rfl)) (fun _ => rfl) (by rfl) (T.gl 5) (da_cons (de_v (pv 0)) da_nil)) (da_cons (de_excV (c := "InvalidNumber") (fls := ["value"]) (Bk.ok .ve) (oxB_ok (k := .ve) (c := "InvalidNumber") (exf T 3)).oex (oxB_ok (k := .ve) (c := "InvalidNumber") (exf T 3)).iC (oxB_ok (k := .ve) (c := "InvalidNumber") (exf T 3)).tI (fd_x_InvalidNumber T).choose_spec.2 (hr.mono (by decide)) (kbn_of (fd_x_InvalidNumber T).choose_spec.1 2 [] (fun us _ => us) (fun a _ => a) (fun _ _ _ _ _ _ us ws l1 l2 => match us, ws, l1, l2 with | [_, _], [], _, _ => rfl)) (fun _ => rfl) (by rfl) (T.gl 4) (da_cons (de_v (pv 0)) da_nil)) (da_cons (de_excV (c := "InvalidBase") (fls := ["value"]) (Bk.ok .ve) (oxB_ok (k := .ve) (c := "InvalidBase") (exf T 2)).oex (oxB_ok (k := .ve) (c := "InvalidBase") (exf T 2)).iC (oxB_ok (k := .ve) (c := "InvalidBase") (exf T 2)).tI (fd_x_InvalidBase T).choose_spec.2 (hr.mono (by decide)) (kbn_of (fd_x_InvalidBase T).choose_spec.1 2 [] (fun us _ => us) (fun a _ => a) (fun _ _ _ _ _ _ us ws l1 l2 => match us, ws, l1, l2 with | [_, _], [], _, _ => rfl)) (fun _ => rfl) (by rfl) (T.gl 3) (da_cons (de_v (pv 0)) da_nil)) (da_cons (de_excV (c := "InvalidName") (fls := ["value"]) (Bk.ok .ve) (oxB_ok (k := .ve) (c := "InvalidName") (exf T 1)).oex (oxB_ok (k := .ve) (c := "InvalidName") (exf T 1)).iC (oxB_ok (k := .ve) (c := "InvalidName") (exf T 1)).tI (fd_x_InvalidName T).choose_spec.2 (hr.mono (by decide)) (kbn_of (fd_x_InvalidName T).choose_spec.1 2 [] (fun us _ => us) (fun a _ => a) (fun _ _ _ _ _ _ us ws l1 l2 => match us, ws, l1, l2 with | [_, _], [], _, _ => rfl)) (fun _ => rfl) (by rfl) (T.gl 2) (da_cons (de_v (pv 0)) da_nil)) (da_cons (de_excV (c := "InvalidRegisters") (fls := ["number"]) (Bk.ok .ve) (oxB_ok (k := .ve) (c := "InvalidRegisters") (exf T 0)).oex (oxB_ok (k := .ve) (c := "InvalidRegisters") (exf T 0)).iC (oxB_ok (k := .ve) (c := "InvalidRegisters") (exf T 0)).tI (fd_x_InvalidRegisters T).choose_spec.2 (hr.mono (by decide)) (kbn_of (fd_x_InvalidRegisters T).choose_spec.1 2 [] (fun us _ => us) (fun a _ => a) (fun _ _ _ _ _ _ us ws l1 l2 => match us, ws, l1, l2 with | [_, _], [], _, _ => rfl)) (fun _ => rfl) (by rfl) (T.gl 1) (da_cons (de_v (pv 0)) da_nil)) da_nil)))))))
      (dss_cons (ds_set (i := 1) (stbG T) (fun p => ps_set (i := 1) sc_l_made.nd rfl (Or.inl rfl) p) (de_op (op_adds rfl) sim_add (de_v (pv 1)) (de_lst (da_cons (de_excV (c := "InvalidModes") (fls := ["number"]) (Bk.ok .ve) (oxB_ok (k := .ve) (c := "InvalidModes") (exf T 8)).oex (oxB_ok (k := .ve) (c := "InvalidModes") (exf T 8)).iC (oxB_ok (k := .ve) (c := "InvalidModes") (exf T 8)).tI (fd_x_InvalidModes T).choose_spec.2 (hr.mono (by decide)) (kbn_of (fd_x_InvalidModes T).choose_spec.1 2 [] (fun us _ => us) (fun a _ => a) (fun _ _ _ _ _ _ us ws l1 l2 => match us, ws, l1, l2 with | [_, _], [], _, _ => rfl)) (fun _ => rfl) (by rfl) (T.gl 9) (da_cons (de_v (pv 0)) da_nil)) (da_cons (de_excV (c := "InvalidRow") (fls := ["mode", "number"]) (Bk.ok .ve) (oxB_ok (k := .ve) (c := "InvalidRow") (exf T 7)).oex (oxB_ok (k := .ve) (c := "InvalidRow") (exf T 7)).iC (oxB_ok (k := .ve) (c := "InvalidRow") (exf T 7)).tI (fd_x_InvalidRow T).choose_spec.2 (hr.mono (by decide)) (kbn_of (fd_x_InvalidRow T).choose_spec.1 3 [] (fun us _ => us) (fun a _ => a) (fun _ _ _ _ _ _ us ws l1 l2 => match us, ws, l1, l2 with | [_, _, _], [], _, _ => rfl)) (fun _ => rfl) (by rfl) (T.gl 8) (da_cons (de_v (pv 0)) (da_cons de_str da_nil))) (da_cons (de_excV (c := "InvalidEnds") (fls := ["value"]) (Bk.ok .ve) (oxB_ok (k := .ve) (c := "InvalidEnds") (exf T 6)).oex (oxB_ok (k := .ve) (c := "InvalidEnds") (exf T 6)).iC (oxB_ok (k := .ve) (c := "InvalidEnds") (exf T 6)).tI (fd_x_InvalidEnds T).choose_spec.2 (hr.mono (by decide)) (kbn_of (fd_x_InvalidEnds T).choose_spec.1 2 [] (fun us _ => us) (fun a _ => a) (fun _ _ _ _ _ _ us ws l1 l2 => match us, ws, l1, l2 with | [_, _], [], _, _ => rfl)) (fun _ => rfl) (by rfl) (T.gl 7) (da_cons (de_v (pv 0)) da_nil)) (da_cons (de_excV (c := "InvalidResult") (fls := ["value"]) (Bk.ok .ve) (oxB_ok (k := .ve) (c := "InvalidResult") (exf T 5)).oex (oxB_ok (k := .ve) (c := "InvalidResult") (exf T 5)).iC (oxB_ok (k := .ve) (c := "InvalidResult") (exf T 5)).tI (fd_x_InvalidResult T).choose_spec.2 (hr.mono (by decide)) (kbn_of (fd_x_InvalidResult T).choose_spec.1 2 [] (fun us _ => us) (fun a _ => a) (fun _ _ _ _ _ _ us ws l1 l2 => match us, ws, l1, l2 with | [_, _], [], _, _ => rfl)) (fun _ => rfl) (by rfl) (T.gl 6) (da_cons (de_v (pv 0)) da_nil)) da_nil)))))))
      (dss_cons (ds_set (i := 1) (stbG T) (fun p => ps_set (i := 1) sc_l_made.nd rfl (Or.inl rfl) p) (de_op (op_adds rfl) sim_add (de_v (pv 1)) (de_lst (da_cons (de_excV (c := "InvalidProgram") (fls := ["value"]) (Bk.ok .ve) (oxB_ok (k := .ve) (c := "InvalidProgram") (exf T 12)).oex (oxB_ok (k := .ve) (c := "InvalidProgram") (exf T 12)).iC (oxB_ok (k := .ve) (c := "InvalidProgram") (exf T 12)).tI (fd_x_InvalidProgram T).choose_spec.2 (hr.mono (by decide)) (kbn_of (fd_x_InvalidProgram T).choose_spec.1 2 [] (fun us _ => us) (fun a _ => a) (fun _ _ _ _ _ _ us ws l1 l2 => match us, ws, l1, l2 with | [_, _], [], _, _ => rfl)) (fun _ => rfl) (by rfl) (T.gl 13) (da_cons (de_v (pv 0)) da_nil)) (da_cons (de_excV (c := "InvalidFigures") (fls := ["value"]) (Bk.ok .ve) (oxB_ok (k := .ve) (c := "InvalidFigures") (exf T 11)).oex (oxB_ok (k := .ve) (c := "InvalidFigures") (exf T 11)).iC (oxB_ok (k := .ve) (c := "InvalidFigures") (exf T 11)).tI (fd_x_InvalidFigures T).choose_spec.2 (hr.mono (by decide)) (kbn_of (fd_x_InvalidFigures T).choose_spec.1 2 [] (fun us _ => us) (fun a _ => a) (fun _ _ _ _ _ _ us ws l1 l2 => match us, ws, l1, l2 with | [_, _], [], _, _ => rfl)) (fun _ => rfl) (by rfl) (T.gl 12) (da_cons (de_v (pv 0)) da_nil)) (da_cons (de_excV (c := "InvalidState") (fls := ["value"]) (Bk.ok .ve) (oxB_ok (k := .ve) (c := "InvalidState") (exf T 10)).oex (oxB_ok (k := .ve) (c := "InvalidState") (exf T 10)).iC (oxB_ok (k := .ve) (c := "InvalidState") (exf T 10)).tI (fd_x_InvalidState T).choose_spec.2 (hr.mono (by decide)) (kbn_of (fd_x_InvalidState T).choose_spec.1 2 [] (fun us _ => us) (fun a _ => a) (fun _ _ _ _ _ _ us ws l1 l2 => match us, ws, l1, l2 with | [_, _], [], _, _ => rfl)) (fun _ => rfl) (by rfl) (T.gl 11) (da_cons (de_v (pv 0)) da_nil)) (da_cons (de_excV (c := "InvalidText") (fls := ["line"]) (Bk.ok .ve) (oxB_ok (k := .ve) (c := "InvalidText") (exf T 9)).oex (oxB_ok (k := .ve) (c := "InvalidText") (exf T 9)).iC (oxB_ok (k := .ve) (c := "InvalidText") (exf T 9)).tI (fd_x_InvalidText T).choose_spec.2 (hr.mono (by decide)) (kbn_of (fd_x_InvalidText T).choose_spec.1 2 [] (fun us _ => us) (fun a _ => a) (fun _ _ _ _ _ _ us ws l1 l2 => match us, ws, l1, l2 with | [_, _], [], _, _ => rfl)) (fun _ => rfl) (by rfl) (T.gl 10) (da_cons (de_v (pv 0)) da_nil)) da_nil)))))))
      (dss_cons (ds_set (i := 1) (stbG T) (fun p => ps_set (i := 1) sc_l_made.nd rfl (Or.inl rfl) p) (de_op (op_adds rfl) sim_add (de_v (pv 1)) (de_lst (da_cons (de_excV (c := "InvalidRatio") (fls := ["value"]) (Bk.ok .ve) (oxB_ok (k := .ve) (c := "InvalidRatio") (exf T 16)).oex (oxB_ok (k := .ve) (c := "InvalidRatio") (exf T 16)).iC (oxB_ok (k := .ve) (c := "InvalidRatio") (exf T 16)).tI (fd_x_InvalidRatio T).choose_spec.2 (hr.mono (by decide)) (kbn_of (fd_x_InvalidRatio T).choose_spec.1 2 [] (fun us _ => us) (fun a _ => a) (fun _ _ _ _ _ _ us ws l1 l2 => match us, ws, l1, l2 with | [_, _], [], _, _ => rfl)) (fun _ => rfl) (by rfl) (T.gl 17) (da_cons (de_v (pv 0)) da_nil)) (da_cons (de_excV (c := "InvalidRows") (fls := ["value"]) (Bk.ok .ve) (oxB_ok (k := .ve) (c := "InvalidRows") (exf T 15)).oex (oxB_ok (k := .ve) (c := "InvalidRows") (exf T 15)).iC (oxB_ok (k := .ve) (c := "InvalidRows") (exf T 15)).tI (fd_x_InvalidRows T).choose_spec.2 (hr.mono (by decide)) (kbn_of (fd_x_InvalidRows T).choose_spec.1 2 [] (fun us _ => us) (fun a _ => a) (fun _ _ _ _ _ _ us ws l1 l2 => match us, ws, l1, l2 with | [_, _], [], _, _ => rfl)) (fun _ => rfl) (by rfl) (T.gl 16) (da_cons (de_v (pv 0)) da_nil)) (da_cons (de_excV (c := "InvalidForm") (fls := ["value"]) (Bk.ok .ve) (oxB_ok (k := .ve) (c := "InvalidForm") (exf T 14)).oex (oxB_ok (k := .ve) (c := "InvalidForm") (exf T 14)).iC (oxB_ok (k := .ve) (c := "InvalidForm") (exf T 14)).tI (fd_x_InvalidForm T).choose_spec.2 (hr.mono (by decide)) (kbn_of (fd_x_InvalidForm T).choose_spec.1 2 [] (fun us _ => us) (fun a _ => a) (fun _ _ _ _ _ _ us ws l1 l2 => match us, ws, l1, l2 with | [_, _], [], _, _ => rfl)) (fun _ => rfl) (by rfl) (T.gl 15) (da_cons (de_v (pv 0)) da_nil)) (da_cons (de_excV (c := "InvalidSign") (fls := ["value"]) (Bk.ok .ve) (oxB_ok (k := .ve) (c := "InvalidSign") (exf T 13)).oex (oxB_ok (k := .ve) (c := "InvalidSign") (exf T 13)).iC (oxB_ok (k := .ve) (c := "InvalidSign") (exf T 13)).tI (fd_x_InvalidSign T).choose_spec.2 (hr.mono (by decide)) (kbn_of (fd_x_InvalidSign T).choose_spec.1 2 [] (fun us _ => us) (fun a _ => a) (fun _ _ _ _ _ _ us ws l1 l2 => match us, ws, l1, l2 with | [_, _], [], _, _ => rfl)) (fun _ => rfl) (by rfl) (T.gl 14) (da_cons (de_v (pv 0)) da_nil)) da_nil)))))))
      (dss_cons (ds_set (i := 1) (stbG T) (fun p => ps_set (i := 1) sc_l_made.nd rfl (Or.inl rfl) p) (de_op (op_adds rfl) sim_add (de_v (pv 1)) (de_lst (da_cons (de_excV (c := "InvalidMachine") (fls := ["value"]) (Bk.ok .ve) (oxB_ok (k := .ve) (c := "InvalidMachine") (exf T 20)).oex (oxB_ok (k := .ve) (c := "InvalidMachine") (exf T 20)).iC (oxB_ok (k := .ve) (c := "InvalidMachine") (exf T 20)).tI (fd_x_InvalidMachine T).choose_spec.2 (hr.mono (by decide)) (kbn_of (fd_x_InvalidMachine T).choose_spec.1 2 [] (fun us _ => us) (fun a _ => a) (fun _ _ _ _ _ _ us ws l1 l2 => match us, ws, l1, l2 with | [_, _], [], _, _ => rfl)) (fun _ => rfl) (by rfl) (T.gl 21) (da_cons (de_v (pv 0)) da_nil)) (da_cons (de_excV (c := "InvalidPieces") (fls := ["number"]) (Bk.ok .ve) (oxB_ok (k := .ve) (c := "InvalidPieces") (exf T 19)).oex (oxB_ok (k := .ve) (c := "InvalidPieces") (exf T 19)).iC (oxB_ok (k := .ve) (c := "InvalidPieces") (exf T 19)).tI (fd_x_InvalidPieces T).choose_spec.2 (hr.mono (by decide)) (kbn_of (fd_x_InvalidPieces T).choose_spec.1 2 [] (fun us _ => us) (fun a _ => a) (fun _ _ _ _ _ _ us ws l1 l2 => match us, ws, l1, l2 with | [_, _], [], _, _ => rfl)) (fun _ => rfl) (by rfl) (T.gl 20) (da_cons (de_v (pv 0)) da_nil)) (da_cons (de_excV (c := "InvalidCommand") (fls := ["word"]) (Bk.ok .ve) (oxB_ok (k := .ve) (c := "InvalidCommand") (exf T 18)).oex (oxB_ok (k := .ve) (c := "InvalidCommand") (exf T 18)).iC (oxB_ok (k := .ve) (c := "InvalidCommand") (exf T 18)).tI (fd_x_InvalidCommand T).choose_spec.2 (hr.mono (by decide)) (kbn_of (fd_x_InvalidCommand T).choose_spec.1 2 [] (fun us _ => us) (fun a _ => a) (fun _ _ _ _ _ _ us ws l1 l2 => match us, ws, l1, l2 with | [_, _], [], _, _ => rfl)) (fun _ => rfl) (by rfl) (T.gl 19) (da_cons (de_v (pv 0)) da_nil)) (da_cons (de_excV (c := "UnknownName") (fls := ["value"]) (Bk.ok .le) (oxB_ok (k := .le) (c := "UnknownName") (exf T 17)).oex (oxB_ok (k := .le) (c := "UnknownName") (exf T 17)).iC (oxB_ok (k := .le) (c := "UnknownName") (exf T 17)).tI (fd_x_UnknownName T).choose_spec.2 (hr.mono (by decide)) (kbn_of (fd_x_UnknownName T).choose_spec.1 2 [] (fun us _ => us) (fun a _ => a) (fun _ _ _ _ _ _ us ws l1 l2 => match us, ws, l1, l2 with | [_, _], [], _, _ => rfl)) (fun _ => rfl) (by rfl) (T.gl 18) (da_cons (de_v (pv 0)) da_nil)) da_nil)))))))
      (dss_cons (ds_set (i := 1) (stbG T) (fun p => ps_set (i := 1) sc_l_made.nd rfl (Or.inl rfl) p) (de_op (op_adds rfl) sim_add (de_v (pv 1)) (de_lst (da_cons (de_excV (c := "Endless") (fls := ["number"]) (Bk.ok .ae) (oxB_ok (k := .ae) (c := "Endless") (exf T 25)).oex (oxB_ok (k := .ae) (c := "Endless") (exf T 25)).iC (oxB_ok (k := .ae) (c := "Endless") (exf T 25)).tI (fd_x_Endless T).choose_spec.2 (hr.mono (by decide)) (kbn_of (fd_x_Endless T).choose_spec.1 2 [] (fun us _ => us) (fun a _ => a) (fun _ _ _ _ _ _ us ws l1 l2 => match us, ws, l1, l2 with | [_, _], [], _, _ => rfl)) (fun _ => rfl) (by rfl) (T.gl 26) (da_cons (de_v (pv 0)) da_nil)) (da_cons (de_excK (c := "DivisionByZero") (fls := []) (ks := []) id id (fun _ _ _ _ h => h) (fun _ h => h) (Bk.ok .ae) (oxB_ok (k := .ae) (c := "DivisionByZero") (exf T 24)).oex (oxB_ok (k := .ae) (c := "DivisionByZero") (exf T 24)).iC (oxB_ok (k := .ae) (c := "DivisionByZero") (exf T 24)).tI (fd_x_DivisionByZero T).choose_spec.2 (hr.mono (by decide)) (kbn_of (fd_x_DivisionByZero T).choose_spec.1 1 [] (fun us ws => us ++ ws) Paired.append (fun _ _ _ _ _ _ us ws l1 l2 => match us, ws, l1, l2 with | [_], [], _, _ => rfl)) (fun _ _ _ => rfl) (by rfl) (T.gl 25) dk_nil) (da_cons (de_excV (c := "Parted") (fls := ["number"]) (Bk.ok .re) (oxB_ok (k := .re) (c := "Parted") (exf T 23)).oex (oxB_ok (k := .re) (c := "Parted") (exf T 23)).iC (oxB_ok (k := .re) (c := "Parted") (exf T 23)).tI (fd_x_Parted T).choose_spec.2 (hr.mono (by decide)) (kbn_of (fd_x_Parted T).choose_spec.1 2 [] (fun us _ => us) (fun a _ => a) (fun _ _ _ _ _ _ us ws l1 l2 => match us, ws, l1, l2 with | [_, _], [], _, _ => rfl)) (fun _ => rfl) (by rfl) (T.gl 24) (da_cons (de_v (pv 0)) da_nil)) (da_cons (de_excV (c := "Unlike") (fls := ["one", "other"]) (Bk.ok .re) (oxB_ok (k := .re) (c := "Unlike") (exf T 22)).oex (oxB_ok (k := .re) (c := "Unlike") (exf T 22)).iC (oxB_ok (k := .re) (c := "Unlike") (exf T 22)).tI (fd_x_Unlike T).choose_spec.2 (hr.mono (by decide)) (kbn_of (fd_x_Unlike T).choose_spec.1 3 [] (fun us _ => us) (fun a _ => a) (fun _ _ _ _ _ _ us ws l1 l2 => match us, ws, l1, l2 with | [_, _, _], [], _, _ => rfl)) (fun _ => rfl) (by rfl) (T.gl 23) (da_cons (de_v (pv 0)) (da_cons de_str da_nil))) (da_cons (de_excV (c := "Broken") (fls := ["number"]) (Bk.ok .re) (oxB_ok (k := .re) (c := "Broken") (exf T 21)).oex (oxB_ok (k := .re) (c := "Broken") (exf T 21)).iC (oxB_ok (k := .re) (c := "Broken") (exf T 21)).tI (fd_x_Broken T).choose_spec.2 (hr.mono (by decide)) (kbn_of (fd_x_Broken T).choose_spec.1 2 [] (fun us _ => us) (fun a _ => a) (fun _ _ _ _ _ _ us ws l1 l2 => match us, ws, l1, l2 with | [_, _], [], _, _ => rfl)) (fun _ => rfl) (by rfl) (T.gl 22) (da_cons (de_v (pv 0)) da_nil)) da_nil))))))))
      (dss_one (ds_ret (de_op (op_adds rfl) sim_add (de_v (pv 1)) (de_lst (da_cons (de_excV (c := "Guarded") (fls := ["condition", "number"]) (Bk.ok .re) (oxB_ok (k := .re) (c := "Guarded") (exf T 30)).oex (oxB_ok (k := .re) (c := "Guarded") (exf T 30)).iC (oxB_ok (k := .re) (c := "Guarded") (exf T 30)).tI (fd_x_Guarded T).choose_spec.2 (hr.mono (by decide)) (kbn_of (fd_x_Guarded T).choose_spec.1 3 [] (fun us _ => us) (fun a _ => a) (fun _ _ _ _ _ _ us ws l1 l2 => match us, ws, l1, l2 with | [_, _, _], [], _, _ => rfl)) (fun _ => rfl) (by rfl) (T.gl 31) (da_cons (de_v (pv 0)) (da_cons de_str da_nil))) (da_cons (de_excK (c := "NothingToUndo") (fls := []) (ks := []) id id (fun _ _ _ _ h => h) (fun _ h => h) (Bk.ok .re) (oxB_ok (k := .re) (c := "NothingToUndo") (exf T 29)).oex (oxB_ok (k := .re) (c := "NothingToUndo") (exf T 29)).iC (oxB_ok (k := .re) (c := "NothingToUndo") (exf T 29)).tI (fd_x_NothingToUndo T).choose_spec.2 (hr.mono (by decide)) (kbn_of (fd_x_NothingToUndo T).choose_spec.1 1 [] (fun us ws => us ++ ws) Paired.append (fun _ _ _ _ _ _ us ws l1 l2 => match us, ws, l1, l2 with | [_], [], _, _ => rfl)) (fun _ _ _ => rfl) (by rfl) (T.gl 30) dk_nil) (da_cons (de_excK (c := "NothingToRedo") (fls := []) (ks := []) id id (fun _ _ _ _ h => h) (fun _ h => h) (Bk.ok .re) (oxB_ok (k := .re) (c := "NothingToRedo") (exf T 28)).oex (oxB_ok (k := .re) (c := "NothingToRedo") (exf T 28)).iC (oxB_ok (k := .re) (c := "NothingToRedo") (exf T 28)).tI (fd_x_NothingToRedo T).choose_spec.2 (hr.mono (by decide)) (kbn_of (fd_x_NothingToRedo T).choose_spec.1 1 [] (fun us ws => us ++ ws) Paired.append (fun _ _ _ _ _ _ us ws l1 l2 => match us, ws, l1, l2 with | [_], [], _, _ => rfl)) (fun _ _ _ => rfl) (by rfl) (T.gl 29) dk_nil) (da_cons (de_excK (c := "NoTrial") (fls := []) (ks := []) id id (fun _ _ _ _ h => h) (fun _ h => h) (Bk.ok .re) (oxB_ok (k := .re) (c := "NoTrial") (exf T 27)).oex (oxB_ok (k := .re) (c := "NoTrial") (exf T 27)).iC (oxB_ok (k := .re) (c := "NoTrial") (exf T 27)).tI (fd_x_NoTrial T).choose_spec.2 (hr.mono (by decide)) (kbn_of (fd_x_NoTrial T).choose_spec.1 1 [] (fun us ws => us ++ ws) Paired.append (fun _ _ _ _ _ _ us ws l1 l2 => match us, ws, l1, l2 with | [_], [], _, _ => rfl)) (fun _ _ _ => rfl) (by rfl) (T.gl 28) dk_nil) (da_cons (de_excV (c := "LimitExceeded") (fls := ["most"]) (Bk.ok .oe) (oxB_ok (k := .oe) (c := "LimitExceeded") (exf T 26)).oex (oxB_ok (k := .oe) (c := "LimitExceeded") (exf T 26)).iC (oxB_ok (k := .oe) (c := "LimitExceeded") (exf T 26)).tI (fd_x_LimitExceeded T).choose_spec.2 (hr.mono (by decide)) (kbn_of (fd_x_LimitExceeded T).choose_spec.1 2 [] (fun us _ => us) (fun a _ => a) (fun _ _ _ _ _ _ us ws l1 l2 => match us, ws, l1, l2 with | [_, _], [], _, _ => rfl)) (fun _ => rfl) (by rfl) (T.gl 27) (da_cons (de_v (pv 0)) da_nil)) da_nil)))))))))))))))
noncomputable abbrev b_l_named : MS := (mSeq (mAsg (mLst (mCons (mExcK "InvalidRule" ["value"] id (mCons (mVar 0) mNil)) (mCons (mExcK "InvalidNumber" ["value"] id (mCons (mVar 0) mNil)) (mCons (mExcK "InvalidBase" ["value"] id (mCons (mVar 0) mNil)) (mCons (mExcK "InvalidName" ["value"] id (mCons (mVar 0) mNil)) mNil))))) (gN 1))
      (mSeq (mAsg (mBin oAdd (mVar 1) (mLst (mCons (mExcK "InvalidRegisters" ["number"] id (mCons (mVar 0) mNil)) (mCons (mExcK "InvalidModes" ["number"] id (mCons (mVar 0) mNil)) (mCons (mExcK "InvalidRow" ["mode", "number"] List.reverse (mCons (mC (.str (Str.ofString "second"))) (mCons (mVar 0) mNil))) mNil))))) (gN 1))
      (mSeq (mAsg (mBin oAdd (mVar 1) (mLst (mCons (mExcK "InvalidEnds" ["value"] id (mCons (mVar 0) mNil)) (mCons (mExcK "InvalidResult" ["value"] id (mCons (mVar 0) mNil)) (mCons (mExcK "InvalidProgram" ["value"] id (mCons (mVar 0) mNil)) mNil))))) (gN 1))
      (mSeq (mAsg (mBin oAdd (mVar 1) (mLst (mCons (mExcK "InvalidFigures" ["value"] id (mCons (mVar 0) mNil)) (mCons (mExcK "InvalidState" ["value"] id (mCons (mVar 0) mNil)) (mCons (mExcK "InvalidText" ["line"] id (mCons (mVar 0) mNil)) mNil))))) (gN 1))
      (mSeq (mAsg (mBin oAdd (mVar 1) (mLst (mCons (mExcK "InvalidRatio" ["value"] id (mCons (mVar 0) mNil)) (mCons (mExcK "InvalidRows" ["value"] id (mCons (mVar 0) mNil)) (mCons (mExcK "InvalidForm" ["value"] id (mCons (mVar 0) mNil)) mNil))))) (gN 1))
      (mSeq (mAsg (mBin oAdd (mVar 1) (mLst (mCons (mExcK "InvalidSign" ["value"] id (mCons (mVar 0) mNil)) (mCons (mExcK "InvalidMachine" ["value"] id (mCons (mVar 0) mNil)) (mCons (mExcK "InvalidPieces" ["number"] id (mCons (mVar 0) mNil)) mNil))))) (gN 1))
      (mSeq (mAsg (mBin oAdd (mVar 1) (mLst (mCons (mExcK "InvalidCommand" ["word"] id (mCons (mVar 0) mNil)) (mCons (mExcK "UnknownName" ["value"] id (mCons (mVar 0) mNil)) (mCons (mExcK "Endless" ["number"] id (mCons (mVar 0) mNil)) (mCons (mExcK "DivisionByZero" [] id mNil) mNil)))))) (gN 1))
      (mSeq (mAsg (mBin oAdd (mVar 1) (mLst (mCons (mExcK "Parted" ["number"] id (mCons (mVar 0) mNil)) (mCons (mExcK "Unlike" ["one", "other"] List.reverse (mCons (mC (.str (Str.ofString "second"))) (mCons (mVar 0) mNil))) (mCons (mExcK "Broken" ["number"] id (mCons (mVar 0) mNil)) mNil))))) (gN 1))
      (mSeq (mAsg (mBin oAdd (mVar 1) (mLst (mCons (mExcK "Guarded" ["condition", "number"] List.reverse (mCons (mC (.str (Str.ofString "second"))) (mCons (mVar 0) mNil))) (mCons (mExcK "NothingToUndo" [] id mNil) (mCons (mExcK "NothingToRedo" [] id mNil) (mCons (mExcK "NoTrial" [] id mNil) mNil)))))) (gN 1))
      (mRet (mBin oAdd (mVar 1) (mLst (mCons (mExcK "LimitExceeded" ["most"] id (mCons (mVar 0) mNil)) mNil)))))))))))))
noncomputable def m_l_named : MF := mFun 1 2 b_l_named
theorem ok_l_named (T : Tx tab exK fns K mg w) : OkB P w K mg base 3 (gaS K "_law_named") ["_law_held"] [] (spM (GG T) m_l_named) :=
  okb_mk (T.c.def_ 4) (fun _ _ _ _ _ _ us hl => match us, hl with | [_], _ => rfl) fun fd F => fn_m (G := (GG T)) F sc_l_named rfl (jvG T) fun cdv A outer s H E hr =>
    have tk : Takes (cxOf (L2.CX P w) P w K mg base n_l_named "_law_named" (defScope s_l_named) (gaS K "_law_named") cdv A outer s H E) (fun cls d _ H' => E cls d H') := takes_of rfl rfl rfl rfl
    (dss_cons (ds_set (i := 1) (stbG T) (fun p => ps_set (i := 1) sc_l_named.nd rfl (Or.inl rfl) p) (de_lst (da_cons (de_excK (c := "InvalidRule") (fls := ["value"]) (ks := ["value"]) id id (fun _ _ _ _ h => h) (fun _ h => h) (Bk.ok .ve) (oxB_ok (k := .ve) (c := "InvalidRule") (exf T 4)).oex (oxB_ok (k := .ve) (c := "InvalidRule") (exf T 4)).iC (oxB_ok (k := .ve) (c := "InvalidRule") (exf T 4)).tI (fd_x_InvalidRule T).choose_spec.2 (hr.mono (by decide)) (kbn_of (fd_x_InvalidRule T).choose_spec.1 1 ["value"] (fun us ws => us ++ ws) Paired.append (fun _ _ _ _ _ _ us ws l1 l2 => match us, ws, l1, l2 with | [_], [_], _, _ => rfl)) (fun _ _ _ => rfl) (by rfl) (T.gl 5) (dk_cons (de_v (pv 0)) dk_nil)) (da_cons (de_excK (c := "InvalidNumber") (fls := ["value"]) (ks := ["value"]) id id (fun _ _ _ _ h => h) (fun _ h => h) (Bk.ok .ve) (oxB_ok (k := .ve) (c := "InvalidNumber") (exf T 3)).oex (oxB_ok (k := .ve) (c := "InvalidNumber") (exf T 3)).iC (oxB_ok (k := .ve) (c := "InvalidNumber") (exf T 3)).tI (fd_x_InvalidNumber T).choose_spec.2 (hr.mono (by decide)) (kbn_of (fd_x_InvalidNumber T).choose_spec.1 1 ["value"] (fun us ws => us ++ ws) Paired.append (fun _ _ _ _ _ _ us ws l1 l2 => match us, ws, l1, l2 with | [_], [_], _, _ => rfl)) (fun _ _ _ => rfl) (by rfl) (T.gl 4) (dk_cons (de_v (pv 0)) dk_nil)) (da_cons (de_excK (c := "InvalidBase") (fls := ["value"]) (ks := ["value"]) id id (fun _ _ _ _ h => h) (fun _ h => h) (Bk.ok .ve) (oxB_ok (k := .ve) (c := "InvalidBase") (exf T 2)).oex (oxB_ok (k := .ve) (c := "InvalidBase") (exf T 2)).iC (oxB_ok (k := .ve) (c := "InvalidBase") (exf T 2)).tI (fd_x_InvalidBase T).choose_spec.2 (hr.mono (by decide)) (kbn_of (fd_x_InvalidBase T).choose_spec.1 1 ["value"] (fun us ws => us ++ ws) Paired.append (fun _ _ _ _ _ _ us ws l1 l2 => match us, ws, l1, l2 with | [_], [_], _, _ => rfl)) (fun _ _ _ => rfl) (by rfl) (T.gl 3) (dk_cons (de_v (pv 0)) dk_nil)) (da_cons (de_excK (c := "InvalidName") (fls := ["value"]) (ks := ["value"]) id id (fun _ _ _ _ h => h) (fun _ h => h) (Bk.ok .ve) (oxB_ok (k := .ve) (c := "InvalidName") (exf T 1)).oex (oxB_ok (k := .ve) (c := "InvalidName") (exf T 1)).iC (oxB_ok (k := .ve) (c := "InvalidName") (exf T 1)).tI (fd_x_InvalidName T).choose_spec.2 (hr.mono (by decide)) (kbn_of (fd_x_InvalidName T).choose_spec.1 1 ["value"] (fun us ws => us ++ ws) Paired.append (fun _ _ _ _ _ _ us ws l1 l2 => match us, ws, l1, l2 with | [_], [_], _, _ => rfl)) (fun _ _ _ => rfl) (by rfl) (T.gl 2) (dk_cons (de_v (pv 0)) dk_nil)) da_nil))))))
      (dss_cons (ds_set (i := 1) (stbG T) (fun p => ps_set (i := 1) sc_l_named.nd rfl (Or.inl rfl) p) (de_op (op_adds rfl) sim_add (de_v (pv 1)) (de_lst (da_cons (de_excK (c := "InvalidRegisters") (fls := ["number"]) (ks := ["number"]) id id (fun _ _ _ _ h => h) (fun _ h => h) (Bk.ok .ve) (oxB_ok (k := .ve) (c := "InvalidRegisters") (exf T 0)).oex (oxB_ok (k := .ve) (c := "InvalidRegisters") (exf T 0)).iC (oxB_ok (k := .ve) (c := "InvalidRegisters") (exf T 0)).tI (fd_x_InvalidRegisters T).choose_spec.2 (hr.mono (by decide)) (kbn_of (fd_x_InvalidRegisters T).choose_spec.1 1 ["number"] (fun us ws => us ++ ws) Paired.append (fun _ _ _ _ _ _ us ws l1 l2 => match us, ws, l1, l2 with | [_], [_], _, _ => rfl)) (fun _ _ _ => rfl) (by rfl) (T.gl 1) (dk_cons (de_v (pv 0)) dk_nil)) (da_cons (de_excK (c := "InvalidModes") (fls := ["number"]) (ks := ["number"]) id id (fun _ _ _ _ h => h) (fun _ h => h) (Bk.ok .ve) (oxB_ok (k := .ve) (c := "InvalidModes") (exf T 8)).oex (oxB_ok (k := .ve) (c := "InvalidModes") (exf T 8)).iC (oxB_ok (k := .ve) (c := "InvalidModes") (exf T 8)).tI (fd_x_InvalidModes T).choose_spec.2 (hr.mono (by decide)) (kbn_of (fd_x_InvalidModes T).choose_spec.1 1 ["number"] (fun us ws => us ++ ws) Paired.append (fun _ _ _ _ _ _ us ws l1 l2 => match us, ws, l1, l2 with | [_], [_], _, _ => rfl)) (fun _ _ _ => rfl) (by rfl) (T.gl 9) (dk_cons (de_v (pv 0)) dk_nil)) (da_cons (de_excK (c := "InvalidRow") (fls := ["mode", "number"]) (ks := ["number", "mode"]) List.reverse List.reverse (fun _ _ _ _ h => Paired.rev h) (fun _ h => by rw [List.length_reverse] at h; exact h) (Bk.ok .ve) (oxB_ok (k := .ve) (c := "InvalidRow") (exf T 7)).oex (oxB_ok (k := .ve) (c := "InvalidRow") (exf T 7)).iC (oxB_ok (k := .ve) (c := "InvalidRow") (exf T 7)).tI (fd_x_InvalidRow T).choose_spec.2 (hr.mono (by decide)) (kbn_of (fd_x_InvalidRow T).choose_spec.1 1 ["number", "mode"] (fun us ws => us ++ ws.reverse) (fun a b => Paired.append a (Paired.rev b)) (fun _ _ _ _ _ _ us ws l1 l2 => match us, ws, l1, l2 with | [_], [_, _], _, _ => rfl)) (fun _ _ _ => rfl) (by rfl) (T.gl 8) (dk_cons de_str (dk_cons (de_v (pv 0)) dk_nil))) da_nil))))))
      (dss_cons (ds_set (i := 1) (stbG T) (fun p => ps_set (i := 1) sc_l_named.nd rfl (Or.inl rfl) p) (de_op (op_adds rfl) sim_add (de_v (pv 1)) (de_lst (da_cons (de_excK (c := "InvalidEnds") (fls := ["value"]) (ks := ["value"]) id id (fun _ _ _ _ h => h) (fun _ h => h) (Bk.ok .ve) (oxB_ok (k := .ve) (c := "InvalidEnds") (exf T 6)).oex (oxB_ok (k := .ve) (c := "InvalidEnds") (exf T 6)).iC (oxB_ok (k := .ve) (c := "InvalidEnds") (exf T 6)).tI (fd_x_InvalidEnds T).choose_spec.2 (hr.mono (by decide)) (kbn_of (fd_x_InvalidEnds T).choose_spec.1 1 ["value"] (fun us ws => us ++ ws) Paired.append (fun _ _ _ _ _ _ us ws l1 l2 => match us, ws, l1, l2 with | [_], [_], _, _ => rfl)) (fun _ _ _ => rfl) (by rfl) (T.gl 7) (dk_cons (de_v (pv 0)) dk_nil)) (da_cons (de_excK (c := "InvalidResult") (fls := ["value"]) (ks := ["value"]) id id (fun _ _ _ _ h => h) (fun _ h => h) (Bk.ok .ve) (oxB_ok (k := .ve) (c := "InvalidResult") (exf T 5)).oex (oxB_ok (k := .ve) (c := "InvalidResult") (exf T 5)).iC (oxB_ok (k := .ve) (c := "InvalidResult") (exf T 5)).tI (fd_x_InvalidResult T).choose_spec.2 (hr.mono (by decide)) (kbn_of (fd_x_InvalidResult T).choose_spec.1 1 ["value"] (fun us ws => us ++ ws) Paired.append (fun _ _ _ _ _ _ us ws l1 l2 => match us, ws, l1, l2 with | [_], [_], _, _ => rfl)) (fun _ _ _ => rfl) (by rfl) (T.gl 6) (dk_cons (de_v (pv 0)) dk_nil)) (da_cons (de_excK (c := "InvalidProgram") (fls := ["value"]) (ks := ["value"]) id id (fun _ _ _ _ h => h) (fun _ h => h) (Bk.ok .ve) (oxB_ok (k := .ve) (c := "InvalidProgram") (exf T 12)).oex (oxB_ok (k := .ve) (c := "InvalidProgram") (exf T 12)).iC (oxB_ok (k := .ve) (c := "InvalidProgram") (exf T 12)).tI (fd_x_InvalidProgram T).choose_spec.2 (hr.mono (by decide)) (kbn_of (fd_x_InvalidProgram T).choose_spec.1 1 ["value"] (fun us ws => us ++ ws) Paired.append (fun _ _ _ _ _ _ us ws l1 l2 => match us, ws, l1, l2 with | [_], [_], _, _ => rfl)) (fun _ _ _ => rfl) (by rfl) (T.gl 13) (dk_cons (de_v (pv 0)) dk_nil)) da_nil))))))
      (dss_cons (ds_set (i := 1) (stbG T) (fun p => ps_set (i := 1) sc_l_named.nd rfl (Or.inl rfl) p) (de_op (op_adds rfl) sim_add (de_v (pv 1)) (de_lst (da_cons (de_excK (c := "InvalidFigures") (fls := ["value"]) (ks := ["value"]) id id (fun _ _ _ _ h => h) (fun _ h => h) (Bk.ok .ve) (oxB_ok (k := .ve) (c := "InvalidFigures") (exf T 11)).oex (oxB_ok (k := .ve) (c := "InvalidFigures") (exf T 11)).iC (oxB_ok (k := .ve) (c := "InvalidFigures") (exf T 11)).tI (fd_x_InvalidFigures T).choose_spec.2 (hr.mono (by decide)) (kbn_of (fd_x_InvalidFigures T).choose_spec.1 1 ["value"] (fun us ws => us ++ ws) Paired.append (fun _ _ _ _ _ _ us ws l1 l2 => match us, ws, l1, l2 with | [_], [_], _, _ => rfl)) (fun _ _ _ => rfl) (by rfl) (T.gl 12) (dk_cons (de_v (pv 0)) dk_nil)) (da_cons (de_excK (c := "InvalidState") (fls := ["value"]) (ks := ["value"]) id id (fun _ _ _ _ h => h) (fun _ h => h) (Bk.ok .ve) (oxB_ok (k := .ve) (c := "InvalidState") (exf T 10)).oex (oxB_ok (k := .ve) (c := "InvalidState") (exf T 10)).iC (oxB_ok (k := .ve) (c := "InvalidState") (exf T 10)).tI (fd_x_InvalidState T).choose_spec.2 (hr.mono (by decide)) (kbn_of (fd_x_InvalidState T).choose_spec.1 1 ["value"] (fun us ws => us ++ ws) Paired.append (fun _ _ _ _ _ _ us ws l1 l2 => match us, ws, l1, l2 with | [_], [_], _, _ => rfl)) (fun _ _ _ => rfl) (by rfl) (T.gl 11) (dk_cons (de_v (pv 0)) dk_nil)) (da_cons (de_excK (c := "InvalidText") (fls := ["line"]) (ks := ["line"]) id id (fun _ _ _ _ h => h) (fun _ h => h) (Bk.ok .ve) (oxB_ok (k := .ve) (c := "InvalidText") (exf T 9)).oex (oxB_ok (k := .ve) (c := "InvalidText") (exf T 9)).iC (oxB_ok (k := .ve) (c := "InvalidText") (exf T 9)).tI (fd_x_InvalidText T).choose_spec.2 (hr.mono (by decide)) (kbn_of (fd_x_InvalidText T).choose_spec.1 1 ["line"] (fun us ws => us ++ ws) Paired.append (fun _ _ _ _ _ _ us ws l1 l2 => match us, ws, l1, l2 with | [_], [_], _, _ => rfl)) (fun _ _ _ => rfl) (by rfl) (T.gl 10) (dk_cons (de_v (pv 0)) dk_nil)) da_nil))))))
      (dss_cons (ds_set (i := 1) (stbG T) (fun p => ps_set (i := 1) sc_l_named.nd rfl (Or.inl rfl) p) (de_op (op_adds rfl) sim_add (de_v (pv 1)) (de_lst (da_cons (de_excK (c := "InvalidRatio") (fls := ["value"]) (ks := ["value"]) id id (fun _ _ _ _ h => h) (fun _ h => h) (Bk.ok .ve) (oxB_ok (k := .ve) (c := "InvalidRatio") (exf T 16)).oex (oxB_ok (k := .ve) (c := "InvalidRatio") (exf T 16)).iC (oxB_ok (k := .ve) (c := "InvalidRatio") (exf T 16)).tI (fd_x_InvalidRatio T).choose_spec.2 (hr.mono (by decide)) (kbn_of (fd_x_InvalidRatio T).choose_spec.1 1 ["value"] (fun us ws => us ++ ws) Paired.append (fun _ _ _ _ _ _ us ws l1 l2 => match us, ws, l1, l2 with | [_], [_], _, _ => rfl)) (fun _ _ _ => rfl) (by rfl) (T.gl 17) (dk_cons (de_v (pv 0)) dk_nil)) (da_cons (de_excK (c := "InvalidRows") (fls := ["value"]) (ks := ["value"]) id id (fun _ _ _ _ h => h) (fun _ h => h) (Bk.ok .ve) (oxB_ok (k := .ve) (c := "InvalidRows") (exf T 15)).oex (oxB_ok (k := .ve) (c := "InvalidRows") (exf T 15)).iC (oxB_ok (k := .ve) (c := "InvalidRows") (exf T 15)).tI (fd_x_InvalidRows T).choose_spec.2 (hr.mono (by decide)) (kbn_of (fd_x_InvalidRows T).choose_spec.1 1 ["value"] (fun us ws => us ++ ws) Paired.append (fun _ _ _ _ _ _ us ws l1 l2 => match us, ws, l1, l2 with | [_], [_], _, _ => rfl)) (fun _ _ _ => rfl) (by rfl) (T.gl 16) (dk_cons (de_v (pv 0)) dk_nil)) (da_cons (de_excK (c := "InvalidForm") (fls := ["value"]) (ks := ["value"]) id id (fun _ _ _ _ h => h) (fun _ h => h) (Bk.ok .ve) (oxB_ok (k := .ve) (c := "InvalidForm") (exf T 14)).oex (oxB_ok (k := .ve) (c := "InvalidForm") (exf T 14)).iC (oxB_ok (k := .ve) (c := "InvalidForm") (exf T 14)).tI (fd_x_InvalidForm T).choose_spec.2 (hr.mono (by decide)) (kbn_of (fd_x_InvalidForm T).choose_spec.1 1 ["value"] (fun us ws => us ++ ws) Paired.append (fun _ _ _ _ _ _ us ws l1 l2 => match us, ws, l1, l2 with | [_], [_], _, _ => rfl)) (fun _ _ _ => rfl) (by rfl) (T.gl 15) (dk_cons (de_v (pv 0)) dk_nil)) da_nil))))))
      (dss_cons (ds_set (i := 1) (stbG T) (fun p => ps_set (i := 1) sc_l_named.nd rfl (Or.inl rfl) p) (de_op (op_adds rfl) sim_add (de_v (pv 1)) (de_lst (da_cons (de_excK (c := "InvalidSign") (fls := ["value"]) (ks := ["value"]) id id (fun _ _ _ _ h => h) (fun _ h => h) (Bk.ok .ve) (oxB_ok (k := .ve) (c := "InvalidSign") (exf T 13)).oex (oxB_ok (k := .ve) (c := "InvalidSign") (exf T 13)).iC (oxB_ok (k := .ve) (c := "InvalidSign") (exf T 13)).tI (fd_x_InvalidSign T).choose_spec.2 (hr.mono (by decide)) (kbn_of (fd_x_InvalidSign T).choose_spec.1 1 ["value"] (fun us ws => us ++ ws) Paired.append (fun _ _ _ _ _ _ us ws l1 l2 => match us, ws, l1, l2 with | [_], [_], _, _ => rfl)) (fun _ _ _ => rfl) (by rfl) (T.gl 14) (dk_cons (de_v (pv 0)) dk_nil)) (da_cons (de_excK (c := "InvalidMachine") (fls := ["value"]) (ks := ["value"]) id id (fun _ _ _ _ h => h) (fun _ h => h) (Bk.ok .ve) (oxB_ok (k := .ve) (c := "InvalidMachine") (exf T 20)).oex (oxB_ok (k := .ve) (c := "InvalidMachine") (exf T 20)).iC (oxB_ok (k := .ve) (c := "InvalidMachine") (exf T 20)).tI (fd_x_InvalidMachine T).choose_spec.2 (hr.mono (by decide)) (kbn_of (fd_x_InvalidMachine T).choose_spec.1 1 ["value"] (fun us ws => us ++ ws) Paired.append (fun _ _ _ _ _ _ us ws l1 l2 => match us, ws, l1, l2 with | [_], [_], _, _ => rfl)) (fun _ _ _ => rfl) (by rfl) (T.gl 21) (dk_cons (de_v (pv 0)) dk_nil)) (da_cons (de_excK (c := "InvalidPieces") (fls := ["number"]) (ks := ["number"]) id id (fun _ _ _ _ h => h) (fun _ h => h) (Bk.ok .ve) (oxB_ok (k := .ve) (c := "InvalidPieces") (exf T 19)).oex (oxB_ok (k := .ve) (c := "InvalidPieces") (exf T 19)).iC (oxB_ok (k := .ve) (c := "InvalidPieces") (exf T 19)).tI (fd_x_InvalidPieces T).choose_spec.2 (hr.mono (by decide)) (kbn_of (fd_x_InvalidPieces T).choose_spec.1 1 ["number"] (fun us ws => us ++ ws) Paired.append (fun _ _ _ _ _ _ us ws l1 l2 => match us, ws, l1, l2 with | [_], [_], _, _ => rfl)) (fun _ _ _ => rfl) (by rfl) (T.gl 20) (dk_cons (de_v (pv 0)) dk_nil)) da_nil))))))
      (dss_cons (ds_set (i := 1) (stbG T) (fun p => ps_set (i := 1) sc_l_named.nd rfl (Or.inl rfl) p) (de_op (op_adds rfl) sim_add (de_v (pv 1)) (de_lst (da_cons (de_excK (c := "InvalidCommand") (fls := ["word"]) (ks := ["word"]) id id (fun _ _ _ _ h => h) (fun _ h => h) (Bk.ok .ve) (oxB_ok (k := .ve) (c := "InvalidCommand") (exf T 18)).oex (oxB_ok (k := .ve) (c := "InvalidCommand") (exf T 18)).iC (oxB_ok (k := .ve) (c := "InvalidCommand") (exf T 18)).tI (fd_x_InvalidCommand T).choose_spec.2 (hr.mono (by decide)) (kbn_of (fd_x_InvalidCommand T).choose_spec.1 1 ["word"] (fun us ws => us ++ ws) Paired.append (fun _ _ _ _ _ _ us ws l1 l2 => match us, ws, l1, l2 with | [_], [_], _, _ => rfl)) (fun _ _ _ => rfl) (by rfl) (T.gl 19) (dk_cons (de_v (pv 0)) dk_nil)) (da_cons (de_excK (c := "UnknownName") (fls := ["value"]) (ks := ["value"]) id id (fun _ _ _ _ h => h) (fun _ h => h) (Bk.ok .le) (oxB_ok (k := .le) (c := "UnknownName") (exf T 17)).oex (oxB_ok (k := .le) (c := "UnknownName") (exf T 17)).iC (oxB_ok (k := .le) (c := "UnknownName") (exf T 17)).tI (fd_x_UnknownName T).choose_spec.2 (hr.mono (by decide)) (kbn_of (fd_x_UnknownName T).choose_spec.1 1 ["value"] (fun us ws => us ++ ws) Paired.append (fun _ _ _ _ _ _ us ws l1 l2 => match us, ws, l1, l2 with | [_], [_], _, _ => rfl)) (fun _ _ _ => rfl) (by rfl) (T.gl 18) (dk_cons (de_v (pv 0)) dk_nil)) (da_cons (de_excK (c := "Endless") (fls := ["number"]) (ks := ["number"]) id id (fun _ _ _ _ h => h) (fun _ h => h) (Bk.ok .ae) (oxB_ok (k := .ae) (c := "Endless") (exf T 25)).oex (oxB_ok (k := .ae) (c := "Endless") (exf T 25)).iC (oxB_ok (k := .ae) (c := "Endless") (exf T 25)).tI (fd_x_Endless T).choose_spec.2 (hr.mono (by decide)) (kbn_of (fd_x_Endless T).choose_spec.1 1 ["number"] (fun us ws => us ++ ws) Paired.append (fun _ _ _ _ _ _ us ws l1 l2 => match us, ws, l1, l2 with | [_], [_], _, _ => rfl)) (fun _ _ _ => rfl) (by rfl) (T.gl 26) (dk_cons (de_v (pv 0)) dk_nil)) (da_cons (de_excK (c := "DivisionByZero") (fls := []) (ks := []) id id (fun _ _ _ _ h => h) (fun _ h => h) (Bk.ok .ae) (oxB_ok (k := .ae) (c := "DivisionByZero") (exf T 24)).oex (oxB_ok (k := .ae) (c := "DivisionByZero") (exf T 24)).iC (oxB_ok (k := .ae) (c := "DivisionByZero") (exf T 24)).tI (fd_x_DivisionByZero T).choose_spec.2 (hr.mono (by decide)) (kbn_of (fd_x_DivisionByZero T).choose_spec.1 1 [] (fun us ws => us ++ ws) Paired.append (fun _ _ _ _ _ _ us ws l1 l2 => match us, ws, l1, l2 with | [_], [], _, _ => rfl)) (fun _ _ _ => rfl) (by rfl) (T.gl 25) dk_nil) da_nil)))))))
      (dss_cons (ds_set (i := 1) (stbG T) (fun p => ps_set (i := 1) sc_l_named.nd rfl (Or.inl rfl) p) (de_op (op_adds rfl) sim_add (de_v (pv 1)) (de_lst (da_cons (de_excK (c := "Parted") (fls := ["number"]) (ks := ["number"]) id id (fun _ _ _ _ h => h) (fun _ h => h) (Bk.ok .re) (oxB_ok (k := .re) (c := "Parted") (exf T 23)).oex (oxB_ok (k := .re) (c := "Parted") (exf T 23)).iC (oxB_ok (k := .re) (c := "Parted") (exf T 23)).tI (fd_x_Parted T).choose_spec.2 (hr.mono (by decide)) (kbn_of (fd_x_Parted T).choose_spec.1 1 ["number"] (fun us ws => us ++ ws) Paired.append (fun _ _ _ _ _ _ us ws l1 l2 => match us, ws, l1, l2 with | [_], [_], _, _ => rfl)) (fun _ _ _ => rfl) (by rfl) (T.gl 24) (dk_cons (de_v (pv 0)) dk_nil)) (da_cons (de_excK (c := "Unlike") (fls := ["one", "other"]) (ks := ["other", "one"]) List.reverse List.reverse (fun _ _ _ _ h => Paired.rev h) (fun _ h => by rw [List.length_reverse] at h; exact h) (Bk.ok .re) (oxB_ok (k := .re) (c := "Unlike") (exf T 22)).oex (oxB_ok (k := .re) (c := "Unlike") (exf T 22)).iC (oxB_ok (k := .re) (c := "Unlike") (exf T 22)).tI (fd_x_Unlike T).choose_spec.2 (hr.mono (by decide)) (kbn_of (fd_x_Unlike T).choose_spec.1 1 ["other", "one"] (fun us ws => us ++ ws.reverse) (fun a b => Paired.append a (Paired.rev b)) (fun _ _ _ _ _ _ us ws l1 l2 => match us, ws, l1, l2 with | [_], [_, _], _, _ => rfl)) (fun _ _ _ => rfl) (by rfl) (T.gl 23) (dk_cons de_str (dk_cons (de_v (pv 0)) dk_nil))) (da_cons (de_excK (c := "Broken") (fls := ["number"]) (ks := ["number"]) id id (fun _ _ _ _ h => h) (fun _ h => h) (Bk.ok .re) (oxB_ok (k := .re) (c := "Broken") (exf T 21)).oex (oxB_ok (k := .re) (c := "Broken") (exf T 21)).iC (oxB_ok (k := .re) (c := "Broken") (exf T 21)).tI (fd_x_Broken T).choose_spec.2 (hr.mono (by decide)) (kbn_of (fd_x_Broken T).choose_spec.1 1 ["number"] (fun us ws => us ++ ws) Paired.append (fun _ _ _ _ _ _ us ws l1 l2 => match us, ws, l1, l2 with | [_], [_], _, _ => rfl)) (fun _ _ _ => rfl) (by rfl) (T.gl 22) (dk_cons (de_v (pv 0)) dk_nil)) da_nil))))))
      (dss_cons (ds_set (i := 1) (stbG T) (fun p => ps_set (i := 1) sc_l_named.nd rfl (Or.inl rfl) p) (de_op (op_adds rfl) sim_add (de_v (pv 1)) (de_lst (da_cons (de_excK (c := "Guarded") (fls := ["condition", "number"]) (ks := ["number", "condition"]) List.reverse List.reverse (fun _ _ _ _ h => Paired.rev h) (fun _ h => by rw [List.length_reverse] at h; exact h) (Bk.ok .re) (oxB_ok (k := .re) (c := "Guarded") (exf T 30)).oex (oxB_ok (k := .re) (c := "Guarded") (exf T 30)).iC (oxB_ok (k := .re) (c := "Guarded") (exf T 30)).tI (fd_x_Guarded T).choose_spec.2 (hr.mono (by decide)) (kbn_of (fd_x_Guarded T).choose_spec.1 1 ["number", "condition"] (fun us ws => us ++ ws.reverse) (fun a b => Paired.append a (Paired.rev b)) (fun _ _ _ _ _ _ us ws l1 l2 => match us, ws, l1, l2 with | [_], [_, _], _, _ => rfl)) (fun _ _ _ => rfl) (by rfl) (T.gl 31) (dk_cons de_str (dk_cons (de_v (pv 0)) dk_nil))) (da_cons (de_excK (c := "NothingToUndo") (fls := []) (ks := []) id id (fun _ _ _ _ h => h) (fun _ h => h) (Bk.ok .re) (oxB_ok (k := .re) (c := "NothingToUndo") (exf T 29)).oex (oxB_ok (k := .re) (c := "NothingToUndo") (exf T 29)).iC (oxB_ok (k := .re) (c := "NothingToUndo") (exf T 29)).tI (fd_x_NothingToUndo T).choose_spec.2 (hr.mono (by decide)) (kbn_of (fd_x_NothingToUndo T).choose_spec.1 1 [] (fun us ws => us ++ ws) Paired.append (fun _ _ _ _ _ _ us ws l1 l2 => match us, ws, l1, l2 with | [_], [], _, _ => rfl)) (fun _ _ _ => rfl) (by rfl) (T.gl 30) dk_nil) (da_cons (de_excK (c := "NothingToRedo") (fls := []) (ks := []) id id (fun _ _ _ _ h => h) (fun _ h => h) (Bk.ok .re) (oxB_ok (k := .re) (c := "NothingToRedo") (exf T 28)).oex (oxB_ok (k := .re) (c := "NothingToRedo") (exf T 28)).iC (oxB_ok (k := .re) (c := "NothingToRedo") (exf T 28)).tI (fd_x_NothingToRedo T).choose_spec.2 (hr.mono (by decide)) (kbn_of (fd_x_NothingToRedo T).choose_spec.1 1 [] (fun us ws => us ++ ws) Paired.append (fun _ _ _ _ _ _ us ws l1 l2 => match us, ws, l1, l2 with | [_], [], _, _ => rfl)) (fun _ _ _ => rfl) (by rfl) (T.gl 29) dk_nil) (da_cons (de_excK (c := "NoTrial") (fls := []) (ks := []) id id (fun _ _ _ _ h => h) (fun _ h => h) (Bk.ok .re) (oxB_ok (k := .re) (c := "NoTrial") (exf T 27)).oex (oxB_ok (k := .re) (c := "NoTrial") (exf T 27)).iC (oxB_ok (k := .re) (c := "NoTrial") (exf T 27)).tI (fd_x_NoTrial T).choose_spec.2 (hr.mono (by decide)) (kbn_of (fd_x_NoTrial T).choose_spec.1 1 [] (fun us ws => us ++ ws) Paired.append (fun _ _ _ _ _ _ us ws l1 l2 => match us, ws, l1, l2 with | [_], [], _, _ => rfl)) (fun _ _ _ => rfl) (by rfl) (T.gl 28) dk_nil) da_nil)))))))
      (dss_one (ds_ret (de_op (op_adds rfl) sim_add (de_v (pv 1)) (de_lst (da_cons (de_excK (c := "LimitExceeded") (fls := ["most"]) (ks := ["most"]) id id (fun _ _ _ _ h => h) (fun _ h => h) (Bk.ok .oe) (oxB_ok (k := .oe) (c := "LimitExceeded") (exf T 26)).oex (oxB_ok (k := .oe) (c := "LimitExceeded") (exf T 26)).iC (oxB_ok (k := .oe) (c := "LimitExceeded") (exf T 26)).tI (fd_x_LimitExceeded T).choose_spec.2 (hr.mono (by decide)) (kbn_of (fd_x_LimitExceeded T).choose_spec.1 1 ["most"] (fun us ws => us ++ ws) Paired.append (fun _ _ _ _ _ _ us ws l1 l2 => match us, ws, l1, l2 with | [_], [_], _, _ => rfl)) (fun _ _ _ => rfl) (by rfl) (T.gl 27) (dk_cons (de_v (pv 0)) dk_nil)) da_nil))))))))))))))
noncomputable abbrev le0_l_fields : ME := (mVfIn ["InvalidRule", "InvalidNumber", "InvalidBase", "InvalidName", "InvalidEnds", "InvalidResult", "InvalidProgram", "InvalidFigures", "InvalidState", "InvalidRatio", "InvalidRows", "InvalidForm", "InvalidSign", "InvalidMachine", "UnknownName"] "value" (mVar 2))
noncomputable abbrev le1_l_fields : ME := (mVfIn ["InvalidRule", "InvalidNumber", "InvalidBase", "InvalidName", "InvalidEnds", "InvalidResult", "InvalidProgram", "InvalidFigures", "InvalidState", "InvalidRatio", "InvalidRows", "InvalidForm", "InvalidSign", "InvalidMachine", "UnknownName"] "value" (mVar 2))
noncomputable abbrev le2_l_fields : ME := (mVfIn ["InvalidRule", "InvalidNumber", "InvalidBase", "InvalidName", "InvalidEnds", "InvalidResult", "InvalidProgram", "InvalidFigures", "InvalidState", "InvalidRatio", "InvalidRows", "InvalidForm", "InvalidSign", "InvalidMachine", "UnknownName"] "value" (mVar 2))
noncomputable abbrev b_l_fields : MS := (mSeq (mAsg (mBin oAdd (mLc [2] (mItS (mSl (mVar 0) mNo (mPart (mC (.int 4))))) (gN 2) mYes le0_l_fields) (mLst (mCons (mVfIn ["InvalidRegisters", "InvalidModes", "InvalidRow", "InvalidPieces", "Endless", "Parted", "Broken", "Guarded"] "number" (mBin oIx (mVar 0) (mC (.int 4)))) (mCons (mVfIn ["InvalidRegisters", "InvalidModes", "InvalidRow", "InvalidPieces", "Endless", "Parted", "Broken", "Guarded"] "number" (mBin oIx (mVar 0) (mC (.int 5)))) (mCons (mVfIn ["InvalidRow"] "mode" (mBin oIx (mVar 0) (mC (.int 6)))) mNil))))) (gN 1))
      (mSeq (mAsg (mBin oAdd (mBin oAdd (mVar 1) (mLc [2] (mItS (mSl (mVar 0) (mPart (mC (.int 7))) (mPart (mC (.int 12))))) (gN 2) mYes le1_l_fields)) (mLst (mCons (mVfIn ["InvalidText"] "line" (mBin oIx (mVar 0) (mC (.int 12)))) mNil))) (gN 1))
      (mSeq (mAsg (mBin oAdd (mBin oAdd (mVar 1) (mLc [2] (mItS (mSl (mVar 0) (mPart (mC (.int 13))) (mPart (mC (.int 18))))) (gN 2) mYes le2_l_fields)) (mLst (mCons (mVfIn ["InvalidRegisters", "InvalidModes", "InvalidRow", "InvalidPieces", "Endless", "Parted", "Broken", "Guarded"] "number" (mBin oIx (mVar 0) (mC (.int 18)))) (mCons (mVfIn ["InvalidCommand"] "word" (mBin oIx (mVar 0) (mC (.int 19)))) (mCons (mVfIn ["InvalidRule", "InvalidNumber", "InvalidBase", "InvalidName", "InvalidEnds", "InvalidResult", "InvalidProgram", "InvalidFigures", "InvalidState", "InvalidRatio", "InvalidRows", "InvalidForm", "InvalidSign", "InvalidMachine", "UnknownName"] "value" (mBin oIx (mVar 0) (mC (.int 20)))) mNil))))) (gN 1))
      (mSeq (mAsg (mBin oAdd (mVar 1) (mLst (mCons (mVfIn ["InvalidRegisters", "InvalidModes", "InvalidRow", "InvalidPieces", "Endless", "Parted", "Broken", "Guarded"] "number" (mBin oIx (mVar 0) (mC (.int 21)))) (mCons (mVfIn ["InvalidRegisters", "InvalidModes", "InvalidRow", "InvalidPieces", "Endless", "Parted", "Broken", "Guarded"] "number" (mBin oIx (mVar 0) (mC (.int 23)))) (mCons (mVfIn ["Unlike"] "one" (mBin oIx (mVar 0) (mC (.int 24)))) (mCons (mVfIn ["InvalidRegisters", "InvalidModes", "InvalidRow", "InvalidPieces", "Endless", "Parted", "Broken", "Guarded"] "number" (mBin oIx (mVar 0) (mC (.int 25)))) (mCons (mVfIn ["Guarded"] "condition" (mBin oIx (mVar 0) (mC (.int 26)))) mNil))))))) (gN 1))
      (mRet (mBin oAdd (mVar 1) (mLst (mCons (mVfIn ["LimitExceeded"] "most" (mBin oIx (mVar 0) (mC (.int 30)))) mNil))))))))
noncomputable def m_l_fields : MF := mFun 1 3 b_l_fields
theorem ok_l_fields (T : Tx tab exK fns K mg w) : OkB P w K mg base 1 (gaS K "_law_fields") ["_law_made_here"] [] (spM (GG T) m_l_fields) :=
  okb_mk (T.c.def_ 5) (fun _ _ _ _ _ _ us hl => match us, hl with | [_], _ => rfl) fun fd F => fn_m (G := (GG T)) F sc_l_fields rfl (jvG T) fun cdv A outer s H E hr =>
    have tk : Takes (cxOf (L2.CX P w) P w K mg base n_l_fields "_law_fields" (defScope s_l_fields) (gaS K "_law_fields") cdv A outer s H E) (fun cls d _ H' => E cls d H') := takes_of rfl rfl rfl rfl
    (dss_cons (ds_set (i := 1) (stbG T) (fun p => ps_set (i := 1) sc_l_fields.nd rfl (Or.inl rfl) p) (de_op (op_adds rfl) sim_add (de_lc (own := [("_law_thing", 2)]) (stbG T) (by rfl) sc_l_fields.nd (by exact (di_seq rfl (de_sl rfl (de_v (pv 0)) do_none (do_some de_int)))) (blkOk_by (own := [("_law_thing", 2)]) (N := n_l_fields) (sc := defScope s_l_fields) (by decide +kernel)) (fun _ => by exact (dg_name (stbG T) (mem_ix 0) (pg_name (i := 2) sc_l_fields.nd rfl (Or.inl rfl)))) (fun _ => by exact dts_nil) (fun _ => by exact (de_vf (f := "value") (cl := ["InvalidRule", "InvalidNumber", "InvalidBase", "InvalidName", "InvalidEnds", "InvalidResult", "InvalidProgram", "InvalidFigures", "InvalidState", "InvalidRatio", "InvalidRows", "InvalidForm", "InvalidSign", "InvalidMachine", "UnknownName"]) rfl (xv_ok rfl rfl (exf T 31)) (de_v (pv 2)) rfl))) (de_lst (da_cons (de_vf (f := "number") (cl := ["InvalidRegisters", "InvalidModes", "InvalidRow", "InvalidPieces", "Endless", "Parted", "Broken", "Guarded"]) rfl (xv_ok rfl rfl (exf T 33)) (de_ix rfl (de_v (pv 0)) de_int (fun _ _ => rfl)) rfl) (da_cons (de_vf (f := "number") (cl := ["InvalidRegisters", "InvalidModes", "InvalidRow", "InvalidPieces", "Endless", "Parted", "Broken", "Guarded"]) rfl (xv_ok rfl rfl (exf T 33)) (de_ix rfl (de_v (pv 0)) de_int (fun _ _ => rfl)) rfl) (da_cons (de_vf (f := "mode") (cl := ["InvalidRow"]) rfl (xv_ok rfl rfl (exf T 32)) (de_ix rfl (de_v (pv 0)) de_int (fun _ _ => rfl)) rfl) da_nil))))))
      (dss_cons (ds_set (i := 1) (stbG T) (fun p => ps_set (i := 1) sc_l_fields.nd rfl (Or.inl rfl) p) (de_op (op_adds rfl) sim_add (de_op (op_adds rfl) sim_add (de_v (pv 1)) (de_lc (own := [("_law_thing", 2)]) (stbG T) (by rfl) sc_l_fields.nd (by exact (di_seq rfl (de_sl rfl (de_v (pv 0)) (do_some de_int) (do_some de_int)))) (blkOk_by (own := [("_law_thing", 2)]) (N := n_l_fields) (sc := defScope s_l_fields) (by decide +kernel)) (fun _ => by exact (dg_name (stbG T) (mem_ix 0) (pg_name (i := 2) sc_l_fields.nd rfl (Or.inl rfl)))) (fun _ => by exact dts_nil) (fun _ => by exact (de_vf (f := "value") (cl := ["InvalidRule", "InvalidNumber", "InvalidBase", "InvalidName", "InvalidEnds", "InvalidResult", "InvalidProgram", "InvalidFigures", "InvalidState", "InvalidRatio", "InvalidRows", "InvalidForm", "InvalidSign", "InvalidMachine", "UnknownName"]) rfl (xv_ok rfl rfl (exf T 31)) (de_v (pv 2)) rfl)))) (de_lst (da_cons (de_vf (f := "line") (cl := ["InvalidText"]) rfl (xv_ok rfl rfl (exf T 34)) (de_ix rfl (de_v (pv 0)) de_int (fun _ _ => rfl)) rfl) da_nil))))
      (dss_cons (ds_set (i := 1) (stbG T) (fun p => ps_set (i := 1) sc_l_fields.nd rfl (Or.inl rfl) p) (de_op (op_adds rfl) sim_add (de_op (op_adds rfl) sim_add (de_v (pv 1)) (de_lc (own := [("_law_thing", 2)]) (stbG T) (by rfl) sc_l_fields.nd (by exact (di_seq rfl (de_sl rfl (de_v (pv 0)) (do_some de_int) (do_some de_int)))) (blkOk_by (own := [("_law_thing", 2)]) (N := n_l_fields) (sc := defScope s_l_fields) (by decide +kernel)) (fun _ => by exact (dg_name (stbG T) (mem_ix 0) (pg_name (i := 2) sc_l_fields.nd rfl (Or.inl rfl)))) (fun _ => by exact dts_nil) (fun _ => by exact (de_vf (f := "value") (cl := ["InvalidRule", "InvalidNumber", "InvalidBase", "InvalidName", "InvalidEnds", "InvalidResult", "InvalidProgram", "InvalidFigures", "InvalidState", "InvalidRatio", "InvalidRows", "InvalidForm", "InvalidSign", "InvalidMachine", "UnknownName"]) rfl (xv_ok rfl rfl (exf T 31)) (de_v (pv 2)) rfl)))) (de_lst (da_cons (de_vf (f := "number") (cl := ["InvalidRegisters", "InvalidModes", "InvalidRow", "InvalidPieces", "Endless", "Parted", "Broken", "Guarded"]) rfl (xv_ok rfl rfl (exf T 33)) (de_ix rfl (de_v (pv 0)) de_int (fun _ _ => rfl)) rfl) (da_cons (de_vf (f := "word") (cl := ["InvalidCommand"]) rfl (xv_ok rfl rfl (exf T 35)) (de_ix rfl (de_v (pv 0)) de_int (fun _ _ => rfl)) rfl) (da_cons (de_vf (f := "value") (cl := ["InvalidRule", "InvalidNumber", "InvalidBase", "InvalidName", "InvalidEnds", "InvalidResult", "InvalidProgram", "InvalidFigures", "InvalidState", "InvalidRatio", "InvalidRows", "InvalidForm", "InvalidSign", "InvalidMachine", "UnknownName"]) rfl (xv_ok rfl rfl (exf T 31)) (de_ix rfl (de_v (pv 0)) de_int (fun _ _ => rfl)) rfl) da_nil))))))
      (dss_cons (ds_set (i := 1) (stbG T) (fun p => ps_set (i := 1) sc_l_fields.nd rfl (Or.inl rfl) p) (de_op (op_adds rfl) sim_add (de_v (pv 1)) (de_lst (da_cons (de_vf (f := "number") (cl := ["InvalidRegisters", "InvalidModes", "InvalidRow", "InvalidPieces", "Endless", "Parted", "Broken", "Guarded"]) rfl (xv_ok rfl rfl (exf T 33)) (de_ix rfl (de_v (pv 0)) de_int (fun _ _ => rfl)) rfl) (da_cons (de_vf (f := "number") (cl := ["InvalidRegisters", "InvalidModes", "InvalidRow", "InvalidPieces", "Endless", "Parted", "Broken", "Guarded"]) rfl (xv_ok rfl rfl (exf T 33)) (de_ix rfl (de_v (pv 0)) de_int (fun _ _ => rfl)) rfl) (da_cons (de_vf (f := "one") (cl := ["Unlike"]) rfl (xv_ok rfl rfl (exf T 37)) (de_ix rfl (de_v (pv 0)) de_int (fun _ _ => rfl)) rfl) (da_cons (de_vf (f := "number") (cl := ["InvalidRegisters", "InvalidModes", "InvalidRow", "InvalidPieces", "Endless", "Parted", "Broken", "Guarded"]) rfl (xv_ok rfl rfl (exf T 33)) (de_ix rfl (de_v (pv 0)) de_int (fun _ _ => rfl)) rfl) (da_cons (de_vf (f := "condition") (cl := ["Guarded"]) rfl (xv_ok rfl rfl (exf T 36)) (de_ix rfl (de_v (pv 0)) de_int (fun _ _ => rfl)) rfl) da_nil))))))))
      (dss_one (ds_ret (de_op (op_adds rfl) sim_add (de_v (pv 1)) (de_lst (da_cons (de_vf (f := "most") (cl := ["LimitExceeded"]) rfl (xv_ok rfl rfl (exf T 38)) (de_ix rfl (de_v (pv 0)) de_int (fun _ _ => rfl)) rfl) da_nil)))))))))
noncomputable abbrev b_l_kinds : MS := (mSeq (mAsg (mLst (mCons (mIsX isl_InvalidRule (mVar 0)) (mCons (mIsX isl_InvalidNumber (mVar 0)) (mCons (mIsX isl_InvalidBase (mVar 0)) mNil)))) (gN 1))
      (mSeq (mAsg (mBin oAdd (mVar 1) (mLst (mCons (mIsX isl_InvalidName (mVar 0)) (mCons (mIsX isl_InvalidRegisters (mVar 0)) (mCons (mIsX isl_InvalidModes (mVar 0)) mNil))))) (gN 1))
      (mSeq (mAsg (mBin oAdd (mVar 1) (mLst (mCons (mIsX isl_InvalidRow (mVar 0)) (mCons (mIsX isl_InvalidEnds (mVar 0)) (mCons (mIsX isl_InvalidResult (mVar 0)) mNil))))) (gN 1))
      (mSeq (mAsg (mBin oAdd (mVar 1) (mLst (mCons (mIsX isl_InvalidProgram (mVar 0)) (mCons (mIsX isl_InvalidFigures (mVar 0)) (mCons (mIsX isl_InvalidState (mVar 0)) mNil))))) (gN 1))
      (mSeq (mAsg (mBin oAdd (mVar 1) (mLst (mCons (mIsX isl_InvalidText (mVar 0)) (mCons (mIsX isl_InvalidRatio (mVar 0)) (mCons (mIsX isl_InvalidRows (mVar 0)) mNil))))) (gN 1))
      (mSeq (mAsg (mBin oAdd (mVar 1) (mLst (mCons (mIsX isl_InvalidForm (mVar 0)) (mCons (mIsX isl_InvalidSign (mVar 0)) (mCons (mIsX isl_InvalidMachine (mVar 0)) mNil))))) (gN 1))
      (mSeq (mAsg (mBin oAdd (mVar 1) (mLst (mCons (mIsX isl_InvalidPieces (mVar 0)) (mCons (mIsX isl_InvalidCommand (mVar 0)) (mCons (mIsX isl_UnknownName (mVar 0)) mNil))))) (gN 1))
      (mSeq (mAsg (mBin oAdd (mVar 1) (mLst (mCons (mIsX isl_Endless (mVar 0)) (mCons (mIsX isl_DivisionByZero (mVar 0)) (mCons (mIsX isl_Parted (mVar 0)) mNil))))) (gN 1))
      (mSeq (mAsg (mBin oAdd (mVar 1) (mLst (mCons (mIsX isl_Unlike (mVar 0)) (mCons (mIsX isl_Broken (mVar 0)) (mCons (mIsX isl_Guarded (mVar 0)) mNil))))) (gN 1))
      (mSeq (mAsg (mBin oAdd (mVar 1) (mLst (mCons (mIsX isl_NothingToUndo (mVar 0)) (mCons (mIsX isl_NothingToRedo (mVar 0)) (mCons (mIsX isl_NoTrial (mVar 0)) mNil))))) (gN 1))
      (mRet (mBin oAdd (mVar 1) (mLst (mCons (mIsX isl_LimitExceeded (mVar 0)) mNil))))))))))))))
noncomputable def m_l_kinds : MF := mFun 1 2 b_l_kinds
theorem ok_l_kinds (T : Tx tab exK fns K mg w) : OkB P w K mg base 1 (gaS K "_law_kinds") ["_law_e"] [] (spM (GG T) m_l_kinds) :=
  okb_mk (T.c.def_ 6) (fun _ _ _ _ _ _ us hl => match us, hl with | [_], _ => rfl) fun fd F => fn_m (G := (GG T)) F sc_l_kinds rfl (jvG T) fun cdv A outer s H E hr =>
    have tk : Takes (cxOf (L2.CX P w) P w K mg base n_l_kinds "_law_kinds" (defScope s_l_kinds) (gaS K "_law_kinds") cdv A outer s H E) (fun cls d _ H' => E cls d H') := takes_of rfl rfl rfl rfl
    (dss_cons (ds_set (i := 1) (stbG T) (fun p => ps_set (i := 1) sc_l_kinds.nd rfl (Or.inl rfl) p) (de_lst (da_cons (de_isX (cl := isl_InvalidRule) rfl (isx_ok (u := fun K => .ref (gaS K "InvalidRule")) rfl rfl (exf T 39) (exf T 42) (by decide +kernel)) (.own _) (by rfl) (T.bl 2) (by decide +kernel) (de_v (pv 0)) (pe_glob (v := .ref (gaS K "InvalidRule")) (by rfl) (T.gl 5) rfl)) (da_cons (de_isX (cl := isl_InvalidNumber) rfl (isx_ok (u := fun K => .ref (gaS K "InvalidNumber")) rfl rfl (exf T 39) (exf T 41) (by decide +kernel)) (.own _) (by rfl) (T.bl 2) (by decide +kernel) (de_v (pv 0)) (pe_glob (v := .ref (gaS K "InvalidNumber")) (by rfl) (T.gl 4) rfl)) (da_cons (de_isX (cl := isl_InvalidBase) rfl (isx_ok (u := fun K => .ref (gaS K "InvalidBase")) rfl rfl (exf T 39) (exf T 40) (by decide +kernel)) (.own _) (by rfl) (T.bl 2) (by decide +kernel) (de_v (pv 0)) (pe_glob (v := .ref (gaS K "InvalidBase")) (by rfl) (T.gl 3) rfl)) da_nil)))))
      (dss_cons (ds_set (i := 1) (stbG T) (fun p => ps_set (i := 1) sc_l_kinds.nd rfl (Or.inl rfl) p) (de_op (op_adds rfl) sim_add (de_v (pv 1)) (de_lst (da_cons (de_isX (cl := isl_InvalidName) rfl (isx_ok (u := fun K => .ref (gaS K "InvalidName")) rfl rfl (exf T 39) (exf T 45) (by decide +kernel)) (.own _) (by rfl) (T.bl 2) (by decide +kernel) (de_v (pv 0)) (pe_glob (v := .ref (gaS K "InvalidName")) (by rfl) (T.gl 2) rfl)) (da_cons (de_isX (cl := isl_InvalidRegisters) rfl (isx_ok (u := fun K => .ref (gaS K "InvalidRegisters")) rfl rfl (exf T 39) (exf T 44) (by decide +kernel)) (.own _) (by rfl) (T.bl 2) (by decide +kernel) (de_v (pv 0)) (pe_glob (v := .ref (gaS K "InvalidRegisters")) (by rfl) (T.gl 1) rfl)) (da_cons (de_isX (cl := isl_InvalidModes) rfl (isx_ok (u := fun K => .ref (gaS K "InvalidModes")) rfl rfl (exf T 39) (exf T 43) (by decide +kernel)) (.own _) (by rfl) (T.bl 2) (by decide +kernel) (de_v (pv 0)) (pe_glob (v := .ref (gaS K "InvalidModes")) (by rfl) (T.gl 9) rfl)) da_nil))))))
      (dss_cons (ds_set (i := 1) (stbG T) (fun p => ps_set (i := 1) sc_l_kinds.nd rfl (Or.inl rfl) p) (de_op (op_adds rfl) sim_add (de_v (pv 1)) (de_lst (da_cons (de_isX (cl := isl_InvalidRow) rfl (isx_ok (u := fun K => .ref (gaS K "InvalidRow")) rfl rfl (exf T 39) (exf T 48) (by decide +kernel)) (.own _) (by rfl) (T.bl 2) (by decide +kernel) (de_v (pv 0)) (pe_glob (v := .ref (gaS K "InvalidRow")) (by rfl) (T.gl 8) rfl)) (da_cons (de_isX (cl := isl_InvalidEnds) rfl (isx_ok (u := fun K => .ref (gaS K "InvalidEnds")) rfl rfl (exf T 39) (exf T 47) (by decide +kernel)) (.own _) (by rfl) (T.bl 2) (by decide +kernel) (de_v (pv 0)) (pe_glob (v := .ref (gaS K "InvalidEnds")) (by rfl) (T.gl 7) rfl)) (da_cons (de_isX (cl := isl_InvalidResult) rfl (isx_ok (u := fun K => .ref (gaS K "InvalidResult")) rfl rfl (exf T 39) (exf T 46) (by decide +kernel)) (.own _) (by rfl) (T.bl 2) (by decide +kernel) (de_v (pv 0)) (pe_glob (v := .ref (gaS K "InvalidResult")) (by rfl) (T.gl 6) rfl)) da_nil))))))
      (dss_cons (ds_set (i := 1) (stbG T) (fun p => ps_set (i := 1) sc_l_kinds.nd rfl (Or.inl rfl) p) (de_op (op_adds rfl) sim_add (de_v (pv 1)) (de_lst (da_cons (de_isX (cl := isl_InvalidProgram) rfl (isx_ok (u := fun K => .ref (gaS K "InvalidProgram")) rfl rfl (exf T 39) (exf T 51) (by decide +kernel)) (.own _) (by rfl) (T.bl 2) (by decide +kernel) (de_v (pv 0)) (pe_glob (v := .ref (gaS K "InvalidProgram")) (by rfl) (T.gl 13) rfl)) (da_cons (de_isX (cl := isl_InvalidFigures) rfl (isx_ok (u := fun K => .ref (gaS K "InvalidFigures")) rfl rfl (exf T 39) (exf T 50) (by decide +kernel)) (.own _) (by rfl) (T.bl 2) (by decide +kernel) (de_v (pv 0)) (pe_glob (v := .ref (gaS K "InvalidFigures")) (by rfl) (T.gl 12) rfl)) (da_cons (de_isX (cl := isl_InvalidState) rfl (isx_ok (u := fun K => .ref (gaS K "InvalidState")) rfl rfl (exf T 39) (exf T 49) (by decide +kernel)) (.own _) (by rfl) (T.bl 2) (by decide +kernel) (de_v (pv 0)) (pe_glob (v := .ref (gaS K "InvalidState")) (by rfl) (T.gl 11) rfl)) da_nil))))))
      (dss_cons (ds_set (i := 1) (stbG T) (fun p => ps_set (i := 1) sc_l_kinds.nd rfl (Or.inl rfl) p) (de_op (op_adds rfl) sim_add (de_v (pv 1)) (de_lst (da_cons (de_isX (cl := isl_InvalidText) rfl (isx_ok (u := fun K => .ref (gaS K "InvalidText")) rfl rfl (exf T 39) (exf T 54) (by decide +kernel)) (.own _) (by rfl) (T.bl 2) (by decide +kernel) (de_v (pv 0)) (pe_glob (v := .ref (gaS K "InvalidText")) (by rfl) (T.gl 10) rfl)) (da_cons (de_isX (cl := isl_InvalidRatio) rfl (isx_ok (u := fun K => .ref (gaS K "InvalidRatio")) rfl rfl (exf T 39) (exf T 53) (by decide +kernel)) (.own _) (by rfl) (T.bl 2) (by decide +kernel) (de_v (pv 0)) (pe_glob (v := .ref (gaS K "InvalidRatio")) (by rfl) (T.gl 17) rfl)) (da_cons (de_isX (cl := isl_InvalidRows) rfl (isx_ok (u := fun K => .ref (gaS K "InvalidRows")) rfl rfl (exf T 39) (exf T 52) (by decide +kernel)) (.own _) (by rfl) (T.bl 2) (by decide +kernel) (de_v (pv 0)) (pe_glob (v := .ref (gaS K "InvalidRows")) (by rfl) (T.gl 16) rfl)) da_nil))))))
      (dss_cons (ds_set (i := 1) (stbG T) (fun p => ps_set (i := 1) sc_l_kinds.nd rfl (Or.inl rfl) p) (de_op (op_adds rfl) sim_add (de_v (pv 1)) (de_lst (da_cons (de_isX (cl := isl_InvalidForm) rfl (isx_ok (u := fun K => .ref (gaS K "InvalidForm")) rfl rfl (exf T 39) (exf T 57) (by decide +kernel)) (.own _) (by rfl) (T.bl 2) (by decide +kernel) (de_v (pv 0)) (pe_glob (v := .ref (gaS K "InvalidForm")) (by rfl) (T.gl 15) rfl)) (da_cons (de_isX (cl := isl_InvalidSign) rfl (isx_ok (u := fun K => .ref (gaS K "InvalidSign")) rfl rfl (exf T 39) (exf T 56) (by decide +kernel)) (.own _) (by rfl) (T.bl 2) (by decide +kernel) (de_v (pv 0)) (pe_glob (v := .ref (gaS K "InvalidSign")) (by rfl) (T.gl 14) rfl)) (da_cons (de_isX (cl := isl_InvalidMachine) rfl (isx_ok (u := fun K => .ref (gaS K "InvalidMachine")) rfl rfl (exf T 39) (exf T 55) (by decide +kernel)) (.own _) (by rfl) (T.bl 2) (by decide +kernel) (de_v (pv 0)) (pe_glob (v := .ref (gaS K "InvalidMachine")) (by rfl) (T.gl 21) rfl)) da_nil))))))
      (dss_cons (ds_set (i := 1) (stbG T) (fun p => ps_set (i := 1) sc_l_kinds.nd rfl (Or.inl rfl) p) (de_op (op_adds rfl) sim_add (de_v (pv 1)) (de_lst (da_cons (de_isX (cl := isl_InvalidPieces) rfl (isx_ok (u := fun K => .ref (gaS K "InvalidPieces")) rfl rfl (exf T 39) (exf T 60) (by decide +kernel)) (.own _) (by rfl) (T.bl 2) (by decide +kernel) (de_v (pv 0)) (pe_glob (v := .ref (gaS K "InvalidPieces")) (by rfl) (T.gl 20) rfl)) (da_cons (de_isX (cl := isl_InvalidCommand) rfl (isx_ok (u := fun K => .ref (gaS K "InvalidCommand")) rfl rfl (exf T 39) (exf T 59) (by decide +kernel)) (.own _) (by rfl) (T.bl 2) (by decide +kernel) (de_v (pv 0)) (pe_glob (v := .ref (gaS K "InvalidCommand")) (by rfl) (T.gl 19) rfl)) (da_cons (de_isX (cl := isl_UnknownName) rfl (isx_ok (u := fun K => .ref (gaS K "UnknownName")) rfl rfl (exf T 39) (exf T 58) (by decide +kernel)) (.own _) (by rfl) (T.bl 2) (by decide +kernel) (de_v (pv 0)) (pe_glob (v := .ref (gaS K "UnknownName")) (by rfl) (T.gl 18) rfl)) da_nil))))))
      (dss_cons (ds_set (i := 1) (stbG T) (fun p => ps_set (i := 1) sc_l_kinds.nd rfl (Or.inl rfl) p) (de_op (op_adds rfl) sim_add (de_v (pv 1)) (de_lst (da_cons (de_isX (cl := isl_Endless) rfl (isx_ok (u := fun K => .ref (gaS K "Endless")) rfl rfl (exf T 39) (exf T 63) (by decide +kernel)) (.own _) (by rfl) (T.bl 2) (by decide +kernel) (de_v (pv 0)) (pe_glob (v := .ref (gaS K "Endless")) (by rfl) (T.gl 26) rfl)) (da_cons (de_isX (cl := isl_DivisionByZero) rfl (isx_ok (u := fun K => .ref (gaS K "DivisionByZero")) rfl rfl (exf T 39) (exf T 62) (by decide +kernel)) (.own _) (by rfl) (T.bl 2) (by decide +kernel) (de_v (pv 0)) (pe_glob (v := .ref (gaS K "DivisionByZero")) (by rfl) (T.gl 25) rfl)) (da_cons (de_isX (cl := isl_Parted) rfl (isx_ok (u := fun K => .ref (gaS K "Parted")) rfl rfl (exf T 39) (exf T 61) (by decide +kernel)) (.own _) (by rfl) (T.bl 2) (by decide +kernel) (de_v (pv 0)) (pe_glob (v := .ref (gaS K "Parted")) (by rfl) (T.gl 24) rfl)) da_nil))))))
      (dss_cons (ds_set (i := 1) (stbG T) (fun p => ps_set (i := 1) sc_l_kinds.nd rfl (Or.inl rfl) p) (de_op (op_adds rfl) sim_add (de_v (pv 1)) (de_lst (da_cons (de_isX (cl := isl_Unlike) rfl (isx_ok (u := fun K => .ref (gaS K "Unlike")) rfl rfl (exf T 39) (exf T 66) (by decide +kernel)) (.own _) (by rfl) (T.bl 2) (by decide +kernel) (de_v (pv 0)) (pe_glob (v := .ref (gaS K "Unlike")) (by rfl) (T.gl 23) rfl)) (da_cons (de_isX (cl := isl_Broken) rfl (isx_ok (u := fun K => .ref (gaS K "Broken")) rfl rfl (exf T 39) (exf T 65) (by decide +kernel)) (.own _) (by rfl) (T.bl 2) (by decide +kernel) (de_v (pv 0)) (pe_glob (v := .ref (gaS K "Broken")) (by rfl) (T.gl 22) rfl)) (da_cons (de_isX (cl := isl_Guarded) rfl (isx_ok (u := fun K => .ref (gaS K "Guarded")) rfl rfl (exf T 39) (exf T 64) (by decide +kernel)) (.own _) (by rfl) (T.bl 2) (by decide +kernel) (de_v (pv 0)) (pe_glob (v := .ref (gaS K "Guarded")) (by rfl) (T.gl 31) rfl)) da_nil))))))
      (dss_cons (ds_set (i := 1) (stbG T) (fun p => ps_set (i := 1) sc_l_kinds.nd rfl (Or.inl rfl) p) (de_op (op_adds rfl) sim_add (de_v (pv 1)) (de_lst (da_cons (de_isX (cl := isl_NothingToUndo) rfl (isx_ok (u := fun K => .ref (gaS K "NothingToUndo")) rfl rfl (exf T 39) (exf T 69) (by decide +kernel)) (.own _) (by rfl) (T.bl 2) (by decide +kernel) (de_v (pv 0)) (pe_glob (v := .ref (gaS K "NothingToUndo")) (by rfl) (T.gl 30) rfl)) (da_cons (de_isX (cl := isl_NothingToRedo) rfl (isx_ok (u := fun K => .ref (gaS K "NothingToRedo")) rfl rfl (exf T 39) (exf T 68) (by decide +kernel)) (.own _) (by rfl) (T.bl 2) (by decide +kernel) (de_v (pv 0)) (pe_glob (v := .ref (gaS K "NothingToRedo")) (by rfl) (T.gl 29) rfl)) (da_cons (de_isX (cl := isl_NoTrial) rfl (isx_ok (u := fun K => .ref (gaS K "NoTrial")) rfl rfl (exf T 39) (exf T 67) (by decide +kernel)) (.own _) (by rfl) (T.bl 2) (by decide +kernel) (de_v (pv 0)) (pe_glob (v := .ref (gaS K "NoTrial")) (by rfl) (T.gl 28) rfl)) da_nil))))))
      (dss_one (ds_ret (de_op (op_adds rfl) sim_add (de_v (pv 1)) (de_lst (da_cons (de_isX (cl := isl_LimitExceeded) rfl (isx_ok (u := fun K => .ref (gaS K "LimitExceeded")) rfl rfl (exf T 39) (exf T 70) (by decide +kernel)) (.own _) (by rfl) (T.bl 2) (by decide +kernel) (de_v (pv 0)) (pe_glob (v := .ref (gaS K "LimitExceeded")) (by rfl) (T.gl 27) rfl)) da_nil)))))))))))))))
noncomputable abbrev b_l_bases : MS := (mSeq (mAsg (mLst (mCons (mIsX isl_ValueError (mVar 0)) (mCons (mIsX isl_LookupError (mVar 0)) (mCons (mIsX isl_ArithmeticError (mVar 0)) mNil)))) (gN 1))
      (mRet (mBin oAdd (mVar 1) (mLst (mCons (mIsX isl_RuntimeError (mVar 0)) (mCons (mIsX isl_OverflowError (mVar 0)) mNil))))))
noncomputable def m_l_bases : MF := mFun 1 2 b_l_bases
theorem ok_l_bases (T : Tx tab exK fns K mg w) : OkB P w K mg base 1 (gaS K "_law_bases") ["_law_thing"] [] (spM (GG T) m_l_bases) :=
  okb_mk (T.c.def_ 7) (fun _ _ _ _ _ _ us hl => match us, hl with | [_], _ => rfl) fun fd F => fn_m (G := (GG T)) F sc_l_bases rfl (jvG T) fun cdv A outer s H E hr =>
    have tk : Takes (cxOf (L2.CX P w) P w K mg base n_l_bases "_law_bases" (defScope s_l_bases) (gaS K "_law_bases") cdv A outer s H E) (fun cls d _ H' => E cls d H') := takes_of rfl rfl rfl rfl
    (dss_cons (ds_set (i := 1) (stbG T) (fun p => ps_set (i := 1) sc_l_bases.nd rfl (Or.inl rfl) p) (de_lst (da_cons (de_isX (cl := isl_ValueError) rfl (isx_ok (u := fun _ => .type "ValueError") rfl rfl (exf T 39) (exf T 73) (by decide +kernel)) (.ty _) (by rfl) (T.bl 2) (by decide +kernel) (de_v (pv 0)) (pe_bltn (v := .ty "ValueError") (by rfl) (T.bl 5) (by decide +kernel) rfl)) (da_cons (de_isX (cl := isl_LookupError) rfl (isx_ok (u := fun _ => .type "LookupError") rfl rfl (exf T 39) (exf T 72) (by decide +kernel)) (.ty _) (by rfl) (T.bl 2) (by decide +kernel) (de_v (pv 0)) (pe_bltn (v := .ty "LookupError") (by rfl) (T.bl 4) (by decide +kernel) rfl)) (da_cons (de_isX (cl := isl_ArithmeticError) rfl (isx_ok (u := fun _ => .type "ArithmeticError") rfl rfl (exf T 39) (exf T 71) (by decide +kernel)) (.ty _) (by rfl) (T.bl 2) (by decide +kernel) (de_v (pv 0)) (pe_bltn (v := .ty "ArithmeticError") (by rfl) (T.bl 3) (by decide +kernel) rfl)) da_nil)))))
      (dss_one (ds_ret (de_op (op_adds rfl) sim_add (de_v (pv 1)) (de_lst (da_cons (de_isX (cl := isl_RuntimeError) rfl (isx_ok (u := fun _ => .type "RuntimeError") rfl rfl (exf T 39) (exf T 75) (by decide +kernel)) (.ty _) (by rfl) (T.bl 2) (by decide +kernel) (de_v (pv 0)) (pe_bltn (v := .ty "RuntimeError") (by rfl) (T.bl 7) (by decide +kernel) rfl)) (da_cons (de_isX (cl := isl_OverflowError) rfl (isx_ok (u := fun _ => .type "OverflowError") rfl rfl (exf T 39) (exf T 74) (by decide +kernel)) (.ty _) (by rfl) (T.bl 2) (by decide +kernel) (de_v (pv 0)) (pe_bltn (v := .ty "OverflowError") (by rfl) (T.bl 6) (by decide +kernel) rfl)) da_nil)))))))
noncomputable abbrev le0_law : ME := (mOr (mBin oEq (mVar 8) (mBin oIx (mVar 1) (mVar 6))) (mAnd (mBin oEq (mVar 8) (mC (.int 2))) (mBin oEq (mBin oIx (mVar 1) (mVar 6)) (mC (.int 4)))))
noncomputable abbrev le1_law : ME := (mBin oEq (mVar 8) (mVar 6))
noncomputable abbrev lf2_law : MS := (mSeq (mAsg (mLc [8] (mItR1 (mCons (mC (.int 5)) mNil)) (gN 8) mYes le0_law) (gN 7))
      (mIfS (mOrT (mTst (mBin oNe (mCall (withD [] (pureF m_l_kinds)) (mCons (mBin oIx (mVar 5) (mVar 6)) mNil)) (mLc [8] (mItR1 (mCons (mC (.int 31)) mNil)) (gN 8) mYes le1_law))) (mTst (mBin oNe (mCall (withD [] (pureF m_l_bases)) (mCons (mBin oIx (mVar 5) (mVar 6)) mNil)) (mVar 7)))) (mRet (mC (.bl false))) mSkip))
noncomputable abbrev lf3_law : MS := (mSeq (mIfS (mTst (mBin oNeS (mCB oRepr (mCons (mCall (withD [] (pureF m_l_fields)) (mCons (mVar 5) mNil)) mNil)) (mCB oRepr (mCons (mBin oMul (mLst (mCons (mVar 4) mNil)) (mC (.int 27))) mNil)))) (mRet (mC (.bl false))) mSkip)
      (mSeq (mIfS (mTst (mBin oNe (mLst (mCons (mVfIn ["InvalidRegisters", "InvalidModes", "InvalidRow", "InvalidPieces", "Endless", "Parted", "Broken", "Guarded"] "number" (mBin oIx (mVar 5) (mC (.int 6)))) (mCons (mVfIn ["Unlike"] "other" (mBin oIx (mVar 5) (mC (.int 24)))) (mCons (mVfIn ["InvalidRegisters", "InvalidModes", "InvalidRow", "InvalidPieces", "Endless", "Parted", "Broken", "Guarded"] "number" (mBin oIx (mVar 5) (mC (.int 26)))) mNil)))) (mBin oMul (mLst (mCons (mC (.str (Str.ofString "second"))) mNil)) (mC (.int 3))))) (mRet (mC (.bl false))) mSkip)
      (mFor (mItR1 (mCons (mC (.int 31)) mNil)) (gN 6)
      lf2_law)))
noncomputable abbrev lf4_law : MS := (mSeq (mAsg (mCall (withD [] m_l_pool) (mCons (mVar 0) (mCons (mVar 2) mNil))) (gN 3))
      (mSeq (mAsg (mCall (withD [] m_l_choose) (mCons (mVar 3) (mCons (mLst (mCons (mC .non) (mCons (mC (.int 0)) (mCons (mUn oNeg (mC (.int 1))) (mCons (mC (.str (Str.ofString "x"))) (mCons (mTup (mCons (mC (.int 0)) (mCons (mC (.int 1)) mNil))) (mCons (mLst (mCons (mC (.int 3)) mNil)) (mCons mDct0 (mCons (mC (.bl true)) (mCons (mCall (withD [] m_l_draw) (mCons (mVar 3) (mCons (mBin oPow (mC (.int 10)) (mC (.int 30))) mNil))) mNil)))))))))) mNil))) (gN 4))
      (mFor (mItS (mLst (mCons (mCall (withD [] (pureF m_l_made)) (mCons (mVar 4) mNil)) (mCons (mCall (withD [] (pureF m_l_named)) (mCons (mVar 4) mNil)) mNil)))) (gN 5)
      lf3_law)))
noncomputable abbrev b_law : MS := (mSeq (mAsg (mBin oAdd (mBin oAdd (mBin oAdd (mBin oMul (mLst (mCons (mC (.int 0)) mNil)) (mC (.int 20))) (mLst (mCons (mC (.int 1)) (mCons (mC (.int 2)) (mCons (mC (.int 2)) mNil))))) (mBin oMul (mLst (mCons (mC (.int 3)) mNil)) (mC (.int 7)))) (mLst (mCons (mC (.int 4)) mNil))) (gN 1))
      (mSeq (mFor (mItR1 (mCons (mCB oMax (mCons (mC (.int 1)) (mCons (mCB oMin (mCons (mCB oLen (mCons (mVar 0) mNil)) (mCons (mC (.int 4)) mNil))) mNil))) mNil)) (gN 2)
      lf4_law)
      (mRet (mC (.bl true)))))
noncomputable def m_law : MF := mFun 1 9 b_law
theorem fn_law (T : Tx tab exK fns K mg w) : ∀ fd, FunD K "law" "law" (defArgs s_law) (defBody s_law) (defScope s_law) [] [] (gaS K "law") fd → FnG P w K mg base (L2.CX P w) 4 (gaS K "law") fd ["_law_script"] (spM (GG T) m_law) :=
  fun fd F => fn_mG (G := (GG T)) F sc_law rfl (jvG T) fun cdv A outer s H E hr hgd =>
    have tk : Takes (cxOf (L2.CX P w) P w K mg base n_law "law" (defScope s_law) (gaS K "law") cdv A outer s H E) (fun cls d _ H' => E cls d H') := takes_of rfl rfl rfl rfl
    (dss_cons (ds_set (i := 1) (stbG T) (fun p => ps_set (i := 1) sc_law.nd rfl (Or.inr rfl) p) (de_op (op_adds rfl) sim_add (de_op (op_adds rfl) sim_add (de_op (op_adds rfl) sim_add (de_op op_muls sim_mul (de_lst (da_cons de_int da_nil)) de_int) (de_lst (da_cons de_int (da_cons de_int (da_cons de_int da_nil))))) (de_op op_muls sim_mul (de_lst (da_cons de_int da_nil)) de_int)) (de_lst (da_cons de_int da_nil))))
      (dss_cons (ds_for (vs := [2]) (passes_of rfl) (by rfl) (di_range1 (fun p => pi_range1 (by rfl) (T.bl 10) p) (da_cons (de_cb (id := "max") (call_max2 (by rfl)) sim_I2 (by rfl) (T.bl 9) (by decide +kernel) (da_cons de_int (da_cons (de_cb (id := "min") (call_min2 (by rfl)) sim_I2 (by rfl) (T.bl 8) (by decide +kernel) (da_cons (de_cb (id := "len") (cr_len rfl) sim_len (by rfl) (T.bl 0) (by decide +kernel) (da_cons (de_v (pv 0)) da_nil)) (da_cons de_int da_nil))) da_nil))) da_nil)) (dg_name (stbG T) (mem_ix 0) (pg_name (i := 2) sc_law.nd rfl (Or.inl rfl)))
      (dss_cons (ds_set (i := 3) (stbG T) (fun p => ps_set (i := 3) sc_law.nd rfl (Or.inl rfl) p) (ck_call (ok_l_pool T) dfl_nil (hr.mono (by decide)) (by rfl) (T.gl 32) tk (da_cons (de_v (pv 0)) (da_cons (de_v (pv 2)) da_nil))))
      (dss_cons (ds_set (i := 4) (stbG T) (fun p => ps_set (i := 4) sc_law.nd rfl (Or.inl rfl) p) (ck_call (ok_l_choose T) dfl_nil (hr.mono (by decide)) (by rfl) (T.gl 33) tk (da_cons (de_v (pv 3)) (da_cons (de_lst (da_cons de_non (da_cons de_int (da_cons (de_neg de_int) (da_cons de_str (da_cons (de_tup (da_cons de_int (da_cons de_int da_nil))) (da_cons (de_lst (da_cons de_int da_nil)) (da_cons de_dct0 (da_cons de_bl (da_cons (ck_call (ok_l_draw T) dfl_nil (hr.mono (by decide)) (by rfl) (T.gl 0) tk (da_cons (de_v (pv 3)) (da_cons (de_op op_pow sim_pow de_int de_int) da_nil))) da_nil)))))))))) da_nil))))
      (dss_one (ds_for (vs := [5]) (passes_of rfl) (by rfl) (di_seq rfl (de_lst (da_cons (ck_pcall (ok_l_made T) dfl_nil (hr.mono (by decide)) (by rfl) (T.gl 35) tk (da_cons (de_v (pv 4)) da_nil)) (da_cons (ck_pcall (ok_l_named T) dfl_nil (hr.mono (by decide)) (by rfl) (T.gl 34) tk (da_cons (de_v (pv 4)) da_nil)) da_nil)))) (dg_name (stbG T) (mem_ix 0) (pg_name (i := 5) sc_law.nd rfl (Or.inl rfl)))
      (dss_cons (ds_if (dt_cmp op_ne sim_neS (de_cb (id := "repr") (call_repr (exf T 76) hgd hr.units) sim_repr (by rfl) (T.bl 11) (by decide +kernel) (da_cons (ck_pcall (ok_l_fields T) dfl_nil (hr.mono (by decide)) (by rfl) (T.gl 36) tk (da_cons (de_v (pv 5)) da_nil)) da_nil)) (de_cb (id := "repr") (call_repr (exf T 76) hgd hr.units) sim_repr (by rfl) (T.bl 11) (by decide +kernel) (da_cons (de_op op_muls sim_mul (de_lst (da_cons (de_v (pv 4)) da_nil)) de_int) da_nil)) (nomark _)) (dss_one (ds_ret de_bl)) dss_nil)
      (dss_cons (ds_if (dt_cmp (op_ne' rfl hr.units) sim_ne (de_lst (da_cons (de_vf (f := "number") (cl := ["InvalidRegisters", "InvalidModes", "InvalidRow", "InvalidPieces", "Endless", "Parted", "Broken", "Guarded"]) rfl (xv_ok rfl rfl (exf T 33)) (de_ix rfl (de_v (pv 5)) de_int (fun _ _ => rfl)) rfl) (da_cons (de_vf (f := "other") (cl := ["Unlike"]) rfl (xv_ok rfl rfl (exf T 77)) (de_ix rfl (de_v (pv 5)) de_int (fun _ _ => rfl)) rfl) (da_cons (de_vf (f := "number") (cl := ["InvalidRegisters", "InvalidModes", "InvalidRow", "InvalidPieces", "Endless", "Parted", "Broken", "Guarded"]) rfl (xv_ok rfl rfl (exf T 33)) (de_ix rfl (de_v (pv 5)) de_int (fun _ _ => rfl)) rfl) da_nil)))) (de_op op_muls sim_mul (de_lst (da_cons de_str da_nil)) de_int) (nomark _)) (dss_one (ds_ret de_bl)) dss_nil)
      (dss_one (ds_for (vs := [6]) (passes_of rfl) (by rfl) (di_range1 (fun p => pi_range1 (by rfl) (T.bl 10) p) (da_cons de_int da_nil)) (dg_name (stbG T) (mem_ix 0) (pg_name (i := 6) sc_law.nd rfl (Or.inr rfl)))
      (dss_cons (ds_setLc (i := 7) (own := [("_law_spot", 8)]) (stbG T) (by rfl) sc_law.nd rfl rfl (sw_true rfl rfl rfl (by decide +kernel)) (by exact (di_range1 (fun p => pi_range1 (by rfl) (T.bl 10) p) (da_cons de_int da_nil))) (blkOk_by (own := [("_law_spot", 8)]) (N := n_law) (sc := defScope s_law) (by decide +kernel)) (fun _ => by exact (dg_name (stbG T) (mem_ix 0) (pg_name (i := 8) sc_law.nd rfl (Or.inl rfl)))) (fun _ => by exact dts_nil) (fun _ => by exact (de_or (de_cmp (op_eq' rfl hr.units) sim_eq (de_v (pv 8)) (de_ix rfl (de_v (pv 1)) (de_v (pv 6)) (fun _ _ => rfl)) (nomark _)) (de_one (de_and (de_cmp (op_eq' rfl hr.units) sim_eq (de_v (pv 8)) de_int (nomark _)) (de_one (de_cmp (op_eq' rfl hr.units) sim_eq (de_ix rfl (de_v (pv 1)) (de_v (pv 6)) (fun _ _ => rfl)) de_int (nomark _))))))))
      (dss_one (ds_if (DW.dt (dw_or (dt_cmp (op_ne' rfl hr.units) sim_ne (ck_pcall (ok_l_kinds T) dfl_nil (hr.mono (by decide)) (by rfl) (T.gl 38) tk (da_cons (de_ix rfl (de_v (pv 5)) (de_v (pv 6)) (fun _ _ => rfl)) da_nil)) (de_lc (own := [("_law_spot", 8)]) (stbG T) (by rfl) sc_law.nd (by exact (di_range1 (fun p => pi_range1 (by rfl) (T.bl 10) p) (da_cons de_int da_nil))) (blkOk_by (own := [("_law_spot", 8)]) (N := n_law) (sc := defScope s_law) (by decide +kernel)) (fun _ => by exact (dg_name (stbG T) (mem_ix 0) (pg_name (i := 8) sc_law.nd rfl (Or.inl rfl)))) (fun _ => by exact dts_nil) (fun _ => by exact (de_cmp (op_eq' rfl hr.units) sim_eq (de_v (pv 8)) (de_v (pv 6)) (nomark _)))) (nomark _)) (dw_or1 (dt_cmp (op_ne' rfl hr.units) sim_ne (ck_pcall (ok_l_bases T) dfl_nil (hr.mono (by decide)) (by rfl) (T.gl 37) tk (da_cons (de_ix rfl (de_v (pv 5)) (de_v (pv 6)) (fun _ _ => rfl)) da_nil)) (de_v (pv 7)) (nomark _))))) (dss_one (ds_ret de_bl)) dss_nil))))))))))))
      (dss_one (ds_ret de_bl))))
end
/-! P30a: the errors made -/
def sec : D := .str (Str.ofString "second")
def exs (x : D) : List D := [.exc "InvalidRule" [("value", x)],
  .exc "InvalidNumber" [("value", x)],
  .exc "InvalidBase" [("value", x)],
  .exc "InvalidName" [("value", x)],
  .exc "InvalidRegisters" [("number", x)],
  .exc "InvalidModes" [("number", x)],
  .exc "InvalidRow" [("number", sec), ("mode", x)],
  .exc "InvalidEnds" [("value", x)],
  .exc "InvalidResult" [("value", x)],
  .exc "InvalidProgram" [("value", x)],
  .exc "InvalidFigures" [("value", x)],
  .exc "InvalidState" [("value", x)],
  .exc "InvalidText" [("line", x)],
  .exc "InvalidRatio" [("value", x)],
  .exc "InvalidRows" [("value", x)],
  .exc "InvalidForm" [("value", x)],
  .exc "InvalidSign" [("value", x)],
  .exc "InvalidMachine" [("value", x)],
  .exc "InvalidPieces" [("number", x)],
  .exc "InvalidCommand" [("word", x)],
  .exc "UnknownName" [("value", x)],
  .exc "Endless" [("number", x)],
  .exc "DivisionByZero" [],
  .exc "Parted" [("number", x)],
  .exc "Unlike" [("other", sec), ("one", x)],
  .exc "Broken" [("number", x)],
  .exc "Guarded" [("number", sec), ("condition", x)],
  .exc "NothingToUndo" [],
  .exc "NothingToRedo" [],
  .exc "NoTrial" [],
  .exc "LimitExceeded" [("most", x)]]
theorem add_ll (a b : List D) (st : Sto) : oAdd (.d (.lst a)) (.d (.lst b)) st = if a.length + b.length ≤ cap then .ok (.d (.lst (a ++ b))) st else .bad := rfl
theorem xo0 (c : String) (st : Sto) : excOf c [] [] st = .ok (.d (.exc c [])) st := rfl
theorem xo0' (c : String) (st : Sto) : excOf c [] (id []) st = .ok (.d (.exc c [])) st := rfl
theorem xo1 (c f : String) (x : D) (st : Sto) : excOf c [f] [.d x] st = .ok (.d (.exc c [(f, x)])) st := rfl
theorem xo1' (c f : String) (x : D) (st : Sto) : excOf c [f] (id [.d x]) st = .ok (.d (.exc c [(f, x)])) st := rfl
theorem xo2 (c f g : String) (x y : D) (st : Sto) : excOf c [f, g] [.d x, .d y] st = .ok (.d (.exc c [(g, y), (f, x)])) st := rfl
theorem xo2' (c f g : String) (x y : D) (st : Sto) : excOf c [f, g] (List.reverse [.d y, .d x]) st = .ok (.d (.exc c [(g, y), (f, x)])) st := rfl
theorem made_ok {x : D} (hx : strip (.d x) = .d x) (st : Sto) : pureF m_l_made [.d x] st = .ok (.d (.lst (exs x))) st := by
  refine pureF_d (st1 := []) rfl ?_
  unfold m_l_made
  simp only [mFun_eq', mSeq_eq, mIfS, mRet, mRetN, mAsg, mPar, mExpr, mSkip, mBrk, mCnt, mBad, mRaise, outE_ok, outT_ok, outE_er, seqO_nx, seqO_rt, seqO_er, retO_rt, retO_nx, retO_er, Res.bind_ok, Res.bind_er, Res.bind_bad, mVar_0, mVar_s, mVarI_0, mVarI_s, strip_ref, strip_non, strip_bl, strip_int, strip_str, strip_lst, strip_tup, strip_obj, strip_lck, strip_idn, mC, mBin, mUn, mTst, mCB, mCons, mNil, mStar, mAnd, mOr, mAndT, mOrT, mNotT, mIf, mTru, truV, mTup, mLst, ds?, ds?_map, mCall, withD, mFld, getF_o, getF_r, oNeg, oNot, oAbs, oMax, oMin, oI1, oI2, oInt, add_ii, sub_ii, lt_ii, le_ii, gt_ii, ge_ii, eq_ii, ne_ii, gN, gT_tup, gL_lst, gsC_cons, gsN_nil, List.map_cons, List.map_nil, List.length_cons, List.length_nil, List.cons_append, List.nil_append, List.append_nil, List.replicate_zero, List.replicate_succ, List.set_cons_zero, List.set_cons_succ, List.zip_cons_cons, List.zip_nil_right, List.foldl_cons, List.foldl_nil, Option.map_some, Option.map_none, Option.bind_some, Nat.reduceAdd, Nat.reduceSub, Nat.reduceEqDiff, Nat.reduceLT, Nat.reduceLeDiff, String.reduceEq, reduceCtorEq, Int.reduceLT, Int.reduceLE, Int.reduceEq, Int.reduceAdd, Int.reduceSub, Int.reduceNeg, Int.reduceMul, String.reduceBEq, decide_true, decide_false, if_true, if_false, ite_true, ite_false, Bool.false_eq_true, Bool.not_true, Bool.not_false, Bool.true_and, Bool.false_and, Bool.and_true, Bool.and_false, Bool.true_or, Bool.false_or, Bool.or_true, Bool.or_false, hx, mExcV, mExcK, xo0, xo0', xo1, xo1', xo2, xo2', add_ll, List.zip_nil_left, cap]
  rfl
theorem named_ok {x : D} (hx : strip (.d x) = .d x) (st : Sto) : pureF m_l_named [.d x] st = .ok (.d (.lst (exs x))) st := by
  refine pureF_d (st1 := []) rfl ?_
  unfold m_l_named
  simp only [mFun_eq', mSeq_eq, mIfS, mRet, mRetN, mAsg, mPar, mExpr, mSkip, mBrk, mCnt, mBad, mRaise, outE_ok, outT_ok, outE_er, seqO_nx, seqO_rt, seqO_er, retO_rt, retO_nx, retO_er, Res.bind_ok, Res.bind_er, Res.bind_bad, mVar_0, mVar_s, mVarI_0, mVarI_s, strip_ref, strip_non, strip_bl, strip_int, strip_str, strip_lst, strip_tup, strip_obj, strip_lck, strip_idn, mC, mBin, mUn, mTst, mCB, mCons, mNil, mStar, mAnd, mOr, mAndT, mOrT, mNotT, mIf, mTru, truV, mTup, mLst, ds?, ds?_map, mCall, withD, mFld, getF_o, getF_r, oNeg, oNot, oAbs, oMax, oMin, oI1, oI2, oInt, add_ii, sub_ii, lt_ii, le_ii, gt_ii, ge_ii, eq_ii, ne_ii, gN, gT_tup, gL_lst, gsC_cons, gsN_nil, List.map_cons, List.map_nil, List.length_cons, List.length_nil, List.cons_append, List.nil_append, List.append_nil, List.replicate_zero, List.replicate_succ, List.set_cons_zero, List.set_cons_succ, List.zip_cons_cons, List.zip_nil_right, List.foldl_cons, List.foldl_nil, Option.map_some, Option.map_none, Option.bind_some, Nat.reduceAdd, Nat.reduceSub, Nat.reduceEqDiff, Nat.reduceLT, Nat.reduceLeDiff, String.reduceEq, reduceCtorEq, Int.reduceLT, Int.reduceLE, Int.reduceEq, Int.reduceAdd, Int.reduceSub, Int.reduceNeg, Int.reduceMul, String.reduceBEq, decide_true, decide_false, if_true, if_false, ite_true, ite_false, Bool.false_eq_true, Bool.not_true, Bool.not_false, Bool.true_and, Bool.false_and, Bool.and_true, Bool.and_false, Bool.true_or, Bool.false_or, Bool.or_true, Bool.or_false, hx, mExcV, mExcK, xo0, xo0', xo1, xo1', xo2, xo2', add_ll, List.zip_nil_left, cap]
  rfl
theorem kind0 (fs : List (String × D)) (st : Sto) : pureF m_l_kinds [.d (.exc "InvalidRule" fs)] st = .ok (.d (.lst ((List.range 31).map fun (s : Nat) => .bl (decide ((0 + (s : Int)) = 0))))) st := pureF_d (st1 := []) rfl (by kernel_rfl)
theorem kind1 (fs : List (String × D)) (st : Sto) : pureF m_l_kinds [.d (.exc "InvalidNumber" fs)] st = .ok (.d (.lst ((List.range 31).map fun (s : Nat) => .bl (decide ((0 + (s : Int)) = 1))))) st := pureF_d (st1 := []) rfl (by kernel_rfl)
theorem kind2 (fs : List (String × D)) (st : Sto) : pureF m_l_kinds [.d (.exc "InvalidBase" fs)] st = .ok (.d (.lst ((List.range 31).map fun (s : Nat) => .bl (decide ((0 + (s : Int)) = 2))))) st := pureF_d (st1 := []) rfl (by kernel_rfl)
theorem kind3 (fs : List (String × D)) (st : Sto) : pureF m_l_kinds [.d (.exc "InvalidName" fs)] st = .ok (.d (.lst ((List.range 31).map fun (s : Nat) => .bl (decide ((0 + (s : Int)) = 3))))) st := pureF_d (st1 := []) rfl (by kernel_rfl)
theorem kind4 (fs : List (String × D)) (st : Sto) : pureF m_l_kinds [.d (.exc "InvalidRegisters" fs)] st = .ok (.d (.lst ((List.range 31).map fun (s : Nat) => .bl (decide ((0 + (s : Int)) = 4))))) st := pureF_d (st1 := []) rfl (by kernel_rfl)
theorem kind5 (fs : List (String × D)) (st : Sto) : pureF m_l_kinds [.d (.exc "InvalidModes" fs)] st = .ok (.d (.lst ((List.range 31).map fun (s : Nat) => .bl (decide ((0 + (s : Int)) = 5))))) st := pureF_d (st1 := []) rfl (by kernel_rfl)
theorem kind6 (fs : List (String × D)) (st : Sto) : pureF m_l_kinds [.d (.exc "InvalidRow" fs)] st = .ok (.d (.lst ((List.range 31).map fun (s : Nat) => .bl (decide ((0 + (s : Int)) = 6))))) st := pureF_d (st1 := []) rfl (by kernel_rfl)
theorem kind7 (fs : List (String × D)) (st : Sto) : pureF m_l_kinds [.d (.exc "InvalidEnds" fs)] st = .ok (.d (.lst ((List.range 31).map fun (s : Nat) => .bl (decide ((0 + (s : Int)) = 7))))) st := pureF_d (st1 := []) rfl (by kernel_rfl)
theorem kind8 (fs : List (String × D)) (st : Sto) : pureF m_l_kinds [.d (.exc "InvalidResult" fs)] st = .ok (.d (.lst ((List.range 31).map fun (s : Nat) => .bl (decide ((0 + (s : Int)) = 8))))) st := pureF_d (st1 := []) rfl (by kernel_rfl)
theorem kind9 (fs : List (String × D)) (st : Sto) : pureF m_l_kinds [.d (.exc "InvalidProgram" fs)] st = .ok (.d (.lst ((List.range 31).map fun (s : Nat) => .bl (decide ((0 + (s : Int)) = 9))))) st := pureF_d (st1 := []) rfl (by kernel_rfl)
theorem kind10 (fs : List (String × D)) (st : Sto) : pureF m_l_kinds [.d (.exc "InvalidFigures" fs)] st = .ok (.d (.lst ((List.range 31).map fun (s : Nat) => .bl (decide ((0 + (s : Int)) = 10))))) st := pureF_d (st1 := []) rfl (by kernel_rfl)
theorem kind11 (fs : List (String × D)) (st : Sto) : pureF m_l_kinds [.d (.exc "InvalidState" fs)] st = .ok (.d (.lst ((List.range 31).map fun (s : Nat) => .bl (decide ((0 + (s : Int)) = 11))))) st := pureF_d (st1 := []) rfl (by kernel_rfl)
theorem kind12 (fs : List (String × D)) (st : Sto) : pureF m_l_kinds [.d (.exc "InvalidText" fs)] st = .ok (.d (.lst ((List.range 31).map fun (s : Nat) => .bl (decide ((0 + (s : Int)) = 12))))) st := pureF_d (st1 := []) rfl (by kernel_rfl)
theorem kind13 (fs : List (String × D)) (st : Sto) : pureF m_l_kinds [.d (.exc "InvalidRatio" fs)] st = .ok (.d (.lst ((List.range 31).map fun (s : Nat) => .bl (decide ((0 + (s : Int)) = 13))))) st := pureF_d (st1 := []) rfl (by kernel_rfl)
theorem kind14 (fs : List (String × D)) (st : Sto) : pureF m_l_kinds [.d (.exc "InvalidRows" fs)] st = .ok (.d (.lst ((List.range 31).map fun (s : Nat) => .bl (decide ((0 + (s : Int)) = 14))))) st := pureF_d (st1 := []) rfl (by kernel_rfl)
theorem kind15 (fs : List (String × D)) (st : Sto) : pureF m_l_kinds [.d (.exc "InvalidForm" fs)] st = .ok (.d (.lst ((List.range 31).map fun (s : Nat) => .bl (decide ((0 + (s : Int)) = 15))))) st := pureF_d (st1 := []) rfl (by kernel_rfl)
theorem kind16 (fs : List (String × D)) (st : Sto) : pureF m_l_kinds [.d (.exc "InvalidSign" fs)] st = .ok (.d (.lst ((List.range 31).map fun (s : Nat) => .bl (decide ((0 + (s : Int)) = 16))))) st := pureF_d (st1 := []) rfl (by kernel_rfl)
theorem kind17 (fs : List (String × D)) (st : Sto) : pureF m_l_kinds [.d (.exc "InvalidMachine" fs)] st = .ok (.d (.lst ((List.range 31).map fun (s : Nat) => .bl (decide ((0 + (s : Int)) = 17))))) st := pureF_d (st1 := []) rfl (by kernel_rfl)
theorem kind18 (fs : List (String × D)) (st : Sto) : pureF m_l_kinds [.d (.exc "InvalidPieces" fs)] st = .ok (.d (.lst ((List.range 31).map fun (s : Nat) => .bl (decide ((0 + (s : Int)) = 18))))) st := pureF_d (st1 := []) rfl (by kernel_rfl)
theorem kind19 (fs : List (String × D)) (st : Sto) : pureF m_l_kinds [.d (.exc "InvalidCommand" fs)] st = .ok (.d (.lst ((List.range 31).map fun (s : Nat) => .bl (decide ((0 + (s : Int)) = 19))))) st := pureF_d (st1 := []) rfl (by kernel_rfl)
theorem kind20 (fs : List (String × D)) (st : Sto) : pureF m_l_kinds [.d (.exc "UnknownName" fs)] st = .ok (.d (.lst ((List.range 31).map fun (s : Nat) => .bl (decide ((0 + (s : Int)) = 20))))) st := pureF_d (st1 := []) rfl (by kernel_rfl)
theorem kind21 (fs : List (String × D)) (st : Sto) : pureF m_l_kinds [.d (.exc "Endless" fs)] st = .ok (.d (.lst ((List.range 31).map fun (s : Nat) => .bl (decide ((0 + (s : Int)) = 21))))) st := pureF_d (st1 := []) rfl (by kernel_rfl)
theorem kind22 (fs : List (String × D)) (st : Sto) : pureF m_l_kinds [.d (.exc "DivisionByZero" fs)] st = .ok (.d (.lst ((List.range 31).map fun (s : Nat) => .bl (decide ((0 + (s : Int)) = 22))))) st := pureF_d (st1 := []) rfl (by kernel_rfl)
theorem kind23 (fs : List (String × D)) (st : Sto) : pureF m_l_kinds [.d (.exc "Parted" fs)] st = .ok (.d (.lst ((List.range 31).map fun (s : Nat) => .bl (decide ((0 + (s : Int)) = 23))))) st := pureF_d (st1 := []) rfl (by kernel_rfl)
theorem kind24 (fs : List (String × D)) (st : Sto) : pureF m_l_kinds [.d (.exc "Unlike" fs)] st = .ok (.d (.lst ((List.range 31).map fun (s : Nat) => .bl (decide ((0 + (s : Int)) = 24))))) st := pureF_d (st1 := []) rfl (by kernel_rfl)
theorem kind25 (fs : List (String × D)) (st : Sto) : pureF m_l_kinds [.d (.exc "Broken" fs)] st = .ok (.d (.lst ((List.range 31).map fun (s : Nat) => .bl (decide ((0 + (s : Int)) = 25))))) st := pureF_d (st1 := []) rfl (by kernel_rfl)
theorem kind26 (fs : List (String × D)) (st : Sto) : pureF m_l_kinds [.d (.exc "Guarded" fs)] st = .ok (.d (.lst ((List.range 31).map fun (s : Nat) => .bl (decide ((0 + (s : Int)) = 26))))) st := pureF_d (st1 := []) rfl (by kernel_rfl)
theorem kind27 (fs : List (String × D)) (st : Sto) : pureF m_l_kinds [.d (.exc "NothingToUndo" fs)] st = .ok (.d (.lst ((List.range 31).map fun (s : Nat) => .bl (decide ((0 + (s : Int)) = 27))))) st := pureF_d (st1 := []) rfl (by kernel_rfl)
theorem kind28 (fs : List (String × D)) (st : Sto) : pureF m_l_kinds [.d (.exc "NothingToRedo" fs)] st = .ok (.d (.lst ((List.range 31).map fun (s : Nat) => .bl (decide ((0 + (s : Int)) = 28))))) st := pureF_d (st1 := []) rfl (by kernel_rfl)
theorem kind29 (fs : List (String × D)) (st : Sto) : pureF m_l_kinds [.d (.exc "NoTrial" fs)] st = .ok (.d (.lst ((List.range 31).map fun (s : Nat) => .bl (decide ((0 + (s : Int)) = 29))))) st := pureF_d (st1 := []) rfl (by kernel_rfl)
theorem kind30 (fs : List (String × D)) (st : Sto) : pureF m_l_kinds [.d (.exc "LimitExceeded" fs)] st = .ok (.d (.lst ((List.range 31).map fun (s : Nat) => .bl (decide ((0 + (s : Int)) = 30))))) st := pureF_d (st1 := []) rfl (by kernel_rfl)
theorem base0 (fs : List (String × D)) (st : Sto) : pureF m_l_bases [.d (.exc "InvalidRule" fs)] st = .ok (.d (.lst ((List.range 5).map fun (s : Nat) => .bl (decide ((0 + (s : Int)) = 0) || (decide ((0 + (s : Int)) = 2) && decide ((0 : Int) = 4)))))) st := pureF_d (st1 := []) rfl (by kernel_rfl)
theorem base1 (fs : List (String × D)) (st : Sto) : pureF m_l_bases [.d (.exc "InvalidNumber" fs)] st = .ok (.d (.lst ((List.range 5).map fun (s : Nat) => .bl (decide ((0 + (s : Int)) = 0) || (decide ((0 + (s : Int)) = 2) && decide ((0 : Int) = 4)))))) st := pureF_d (st1 := []) rfl (by kernel_rfl)
theorem base2 (fs : List (String × D)) (st : Sto) : pureF m_l_bases [.d (.exc "InvalidBase" fs)] st = .ok (.d (.lst ((List.range 5).map fun (s : Nat) => .bl (decide ((0 + (s : Int)) = 0) || (decide ((0 + (s : Int)) = 2) && decide ((0 : Int) = 4)))))) st := pureF_d (st1 := []) rfl (by kernel_rfl)
theorem base3 (fs : List (String × D)) (st : Sto) : pureF m_l_bases [.d (.exc "InvalidName" fs)] st = .ok (.d (.lst ((List.range 5).map fun (s : Nat) => .bl (decide ((0 + (s : Int)) = 0) || (decide ((0 + (s : Int)) = 2) && decide ((0 : Int) = 4)))))) st := pureF_d (st1 := []) rfl (by kernel_rfl)
theorem base4 (fs : List (String × D)) (st : Sto) : pureF m_l_bases [.d (.exc "InvalidRegisters" fs)] st = .ok (.d (.lst ((List.range 5).map fun (s : Nat) => .bl (decide ((0 + (s : Int)) = 0) || (decide ((0 + (s : Int)) = 2) && decide ((0 : Int) = 4)))))) st := pureF_d (st1 := []) rfl (by kernel_rfl)
theorem base5 (fs : List (String × D)) (st : Sto) : pureF m_l_bases [.d (.exc "InvalidModes" fs)] st = .ok (.d (.lst ((List.range 5).map fun (s : Nat) => .bl (decide ((0 + (s : Int)) = 0) || (decide ((0 + (s : Int)) = 2) && decide ((0 : Int) = 4)))))) st := pureF_d (st1 := []) rfl (by kernel_rfl)
theorem base6 (fs : List (String × D)) (st : Sto) : pureF m_l_bases [.d (.exc "InvalidRow" fs)] st = .ok (.d (.lst ((List.range 5).map fun (s : Nat) => .bl (decide ((0 + (s : Int)) = 0) || (decide ((0 + (s : Int)) = 2) && decide ((0 : Int) = 4)))))) st := pureF_d (st1 := []) rfl (by kernel_rfl)
theorem base7 (fs : List (String × D)) (st : Sto) : pureF m_l_bases [.d (.exc "InvalidEnds" fs)] st = .ok (.d (.lst ((List.range 5).map fun (s : Nat) => .bl (decide ((0 + (s : Int)) = 0) || (decide ((0 + (s : Int)) = 2) && decide ((0 : Int) = 4)))))) st := pureF_d (st1 := []) rfl (by kernel_rfl)
theorem base8 (fs : List (String × D)) (st : Sto) : pureF m_l_bases [.d (.exc "InvalidResult" fs)] st = .ok (.d (.lst ((List.range 5).map fun (s : Nat) => .bl (decide ((0 + (s : Int)) = 0) || (decide ((0 + (s : Int)) = 2) && decide ((0 : Int) = 4)))))) st := pureF_d (st1 := []) rfl (by kernel_rfl)
theorem base9 (fs : List (String × D)) (st : Sto) : pureF m_l_bases [.d (.exc "InvalidProgram" fs)] st = .ok (.d (.lst ((List.range 5).map fun (s : Nat) => .bl (decide ((0 + (s : Int)) = 0) || (decide ((0 + (s : Int)) = 2) && decide ((0 : Int) = 4)))))) st := pureF_d (st1 := []) rfl (by kernel_rfl)
theorem base10 (fs : List (String × D)) (st : Sto) : pureF m_l_bases [.d (.exc "InvalidFigures" fs)] st = .ok (.d (.lst ((List.range 5).map fun (s : Nat) => .bl (decide ((0 + (s : Int)) = 0) || (decide ((0 + (s : Int)) = 2) && decide ((0 : Int) = 4)))))) st := pureF_d (st1 := []) rfl (by kernel_rfl)
theorem base11 (fs : List (String × D)) (st : Sto) : pureF m_l_bases [.d (.exc "InvalidState" fs)] st = .ok (.d (.lst ((List.range 5).map fun (s : Nat) => .bl (decide ((0 + (s : Int)) = 0) || (decide ((0 + (s : Int)) = 2) && decide ((0 : Int) = 4)))))) st := pureF_d (st1 := []) rfl (by kernel_rfl)
theorem base12 (fs : List (String × D)) (st : Sto) : pureF m_l_bases [.d (.exc "InvalidText" fs)] st = .ok (.d (.lst ((List.range 5).map fun (s : Nat) => .bl (decide ((0 + (s : Int)) = 0) || (decide ((0 + (s : Int)) = 2) && decide ((0 : Int) = 4)))))) st := pureF_d (st1 := []) rfl (by kernel_rfl)
theorem base13 (fs : List (String × D)) (st : Sto) : pureF m_l_bases [.d (.exc "InvalidRatio" fs)] st = .ok (.d (.lst ((List.range 5).map fun (s : Nat) => .bl (decide ((0 + (s : Int)) = 0) || (decide ((0 + (s : Int)) = 2) && decide ((0 : Int) = 4)))))) st := pureF_d (st1 := []) rfl (by kernel_rfl)
theorem base14 (fs : List (String × D)) (st : Sto) : pureF m_l_bases [.d (.exc "InvalidRows" fs)] st = .ok (.d (.lst ((List.range 5).map fun (s : Nat) => .bl (decide ((0 + (s : Int)) = 0) || (decide ((0 + (s : Int)) = 2) && decide ((0 : Int) = 4)))))) st := pureF_d (st1 := []) rfl (by kernel_rfl)
theorem base15 (fs : List (String × D)) (st : Sto) : pureF m_l_bases [.d (.exc "InvalidForm" fs)] st = .ok (.d (.lst ((List.range 5).map fun (s : Nat) => .bl (decide ((0 + (s : Int)) = 0) || (decide ((0 + (s : Int)) = 2) && decide ((0 : Int) = 4)))))) st := pureF_d (st1 := []) rfl (by kernel_rfl)
theorem base16 (fs : List (String × D)) (st : Sto) : pureF m_l_bases [.d (.exc "InvalidSign" fs)] st = .ok (.d (.lst ((List.range 5).map fun (s : Nat) => .bl (decide ((0 + (s : Int)) = 0) || (decide ((0 + (s : Int)) = 2) && decide ((0 : Int) = 4)))))) st := pureF_d (st1 := []) rfl (by kernel_rfl)
theorem base17 (fs : List (String × D)) (st : Sto) : pureF m_l_bases [.d (.exc "InvalidMachine" fs)] st = .ok (.d (.lst ((List.range 5).map fun (s : Nat) => .bl (decide ((0 + (s : Int)) = 0) || (decide ((0 + (s : Int)) = 2) && decide ((0 : Int) = 4)))))) st := pureF_d (st1 := []) rfl (by kernel_rfl)
theorem base18 (fs : List (String × D)) (st : Sto) : pureF m_l_bases [.d (.exc "InvalidPieces" fs)] st = .ok (.d (.lst ((List.range 5).map fun (s : Nat) => .bl (decide ((0 + (s : Int)) = 0) || (decide ((0 + (s : Int)) = 2) && decide ((0 : Int) = 4)))))) st := pureF_d (st1 := []) rfl (by kernel_rfl)
theorem base19 (fs : List (String × D)) (st : Sto) : pureF m_l_bases [.d (.exc "InvalidCommand" fs)] st = .ok (.d (.lst ((List.range 5).map fun (s : Nat) => .bl (decide ((0 + (s : Int)) = 0) || (decide ((0 + (s : Int)) = 2) && decide ((0 : Int) = 4)))))) st := pureF_d (st1 := []) rfl (by kernel_rfl)
theorem base20 (fs : List (String × D)) (st : Sto) : pureF m_l_bases [.d (.exc "UnknownName" fs)] st = .ok (.d (.lst ((List.range 5).map fun (s : Nat) => .bl (decide ((0 + (s : Int)) = 1) || (decide ((0 + (s : Int)) = 2) && decide ((1 : Int) = 4)))))) st := pureF_d (st1 := []) rfl (by kernel_rfl)
theorem base21 (fs : List (String × D)) (st : Sto) : pureF m_l_bases [.d (.exc "Endless" fs)] st = .ok (.d (.lst ((List.range 5).map fun (s : Nat) => .bl (decide ((0 + (s : Int)) = 2) || (decide ((0 + (s : Int)) = 2) && decide ((2 : Int) = 4)))))) st := pureF_d (st1 := []) rfl (by kernel_rfl)
theorem base22 (fs : List (String × D)) (st : Sto) : pureF m_l_bases [.d (.exc "DivisionByZero" fs)] st = .ok (.d (.lst ((List.range 5).map fun (s : Nat) => .bl (decide ((0 + (s : Int)) = 2) || (decide ((0 + (s : Int)) = 2) && decide ((2 : Int) = 4)))))) st := pureF_d (st1 := []) rfl (by kernel_rfl)
theorem base23 (fs : List (String × D)) (st : Sto) : pureF m_l_bases [.d (.exc "Parted" fs)] st = .ok (.d (.lst ((List.range 5).map fun (s : Nat) => .bl (decide ((0 + (s : Int)) = 3) || (decide ((0 + (s : Int)) = 2) && decide ((3 : Int) = 4)))))) st := pureF_d (st1 := []) rfl (by kernel_rfl)
theorem base24 (fs : List (String × D)) (st : Sto) : pureF m_l_bases [.d (.exc "Unlike" fs)] st = .ok (.d (.lst ((List.range 5).map fun (s : Nat) => .bl (decide ((0 + (s : Int)) = 3) || (decide ((0 + (s : Int)) = 2) && decide ((3 : Int) = 4)))))) st := pureF_d (st1 := []) rfl (by kernel_rfl)
theorem base25 (fs : List (String × D)) (st : Sto) : pureF m_l_bases [.d (.exc "Broken" fs)] st = .ok (.d (.lst ((List.range 5).map fun (s : Nat) => .bl (decide ((0 + (s : Int)) = 3) || (decide ((0 + (s : Int)) = 2) && decide ((3 : Int) = 4)))))) st := pureF_d (st1 := []) rfl (by kernel_rfl)
theorem base26 (fs : List (String × D)) (st : Sto) : pureF m_l_bases [.d (.exc "Guarded" fs)] st = .ok (.d (.lst ((List.range 5).map fun (s : Nat) => .bl (decide ((0 + (s : Int)) = 3) || (decide ((0 + (s : Int)) = 2) && decide ((3 : Int) = 4)))))) st := pureF_d (st1 := []) rfl (by kernel_rfl)
theorem base27 (fs : List (String × D)) (st : Sto) : pureF m_l_bases [.d (.exc "NothingToUndo" fs)] st = .ok (.d (.lst ((List.range 5).map fun (s : Nat) => .bl (decide ((0 + (s : Int)) = 3) || (decide ((0 + (s : Int)) = 2) && decide ((3 : Int) = 4)))))) st := pureF_d (st1 := []) rfl (by kernel_rfl)
theorem base28 (fs : List (String × D)) (st : Sto) : pureF m_l_bases [.d (.exc "NothingToRedo" fs)] st = .ok (.d (.lst ((List.range 5).map fun (s : Nat) => .bl (decide ((0 + (s : Int)) = 3) || (decide ((0 + (s : Int)) = 2) && decide ((3 : Int) = 4)))))) st := pureF_d (st1 := []) rfl (by kernel_rfl)
theorem base29 (fs : List (String × D)) (st : Sto) : pureF m_l_bases [.d (.exc "NoTrial" fs)] st = .ok (.d (.lst ((List.range 5).map fun (s : Nat) => .bl (decide ((0 + (s : Int)) = 3) || (decide ((0 + (s : Int)) = 2) && decide ((3 : Int) = 4)))))) st := pureF_d (st1 := []) rfl (by kernel_rfl)
theorem base30 (fs : List (String × D)) (st : Sto) : pureF m_l_bases [.d (.exc "LimitExceeded" fs)] st = .ok (.d (.lst ((List.range 5).map fun (s : Nat) => .bl (decide ((0 + (s : Int)) = 4) || (decide ((0 + (s : Int)) = 2) && decide ((4 : Int) = 4)))))) st := pureF_d (st1 := []) rfl (by kernel_rfl)
theorem vfin {cl : List String} {f c : String} {fs : List (String × D)} {a : ME} {ρ : Ev} {st st1 : Sto} {y : D} (h : a ρ st = .ok (.d (.exc c fs)) st1) (hc : decide (c ∈ cl) = true) (hl : fs.lookup f = some y) : mVfIn cl f a ρ st = .ok (.d y) st1 := by
  unfold mVfIn
  rw [h]
  simp only [Res.bind_ok, if_pos (of_decide_eq_true hc), hl]
theorem exix {x : D} (i : Nat) {y : D} (h : (exs x)[i]? = some y) (st : Sto) : oIx (.d (.lst (exs x))) (.d (.int i)) st = .ok (.d y) st := ix_lst _ _ _ _ (by
  have : i < (exs x).length := (List.getElem?_eq_some_iff.mp h).1
  unfold atI ixN
  rw [if_pos (by omega), if_pos (by omega)]
  simpa using h)
theorem lcv {cl : List String} {x : D} {xs : List (String × List (String × D))} {lo hi : MO'} {ρ0 ρ1 : Option Va} (hs : mSl (mVar 0) lo hi [some (.d (.lst (exs x))), ρ0, ρ1] [] = .ok (.d (.lst (xs.map fun p => .exc p.1 p.2))) [])
    (hl : xs.length ≤ 100) (h : ∀ p ∈ xs, decide (p.1 ∈ cl) = true ∧ p.2.lookup "value" = some x) (hx : ∀ c fs, strip (.d (.exc c fs)) = .d (.exc c fs)) : mLc [2] (mItS (mSl (mVar 0) lo hi)) (gN 2) mYes (mVfIn cl "value" (mVar 2)) [some (.d (.lst (exs x))), ρ0, ρ1] [] = .ok (.d (.lst (List.replicate xs.length x))) [] := by
  rw [mLc_map (l := xs) (g := fun p => Va.d (.exc p.1 p.2)) (f := fun _ => x) (st1 := []) (by rw [itS_lst hs, List.map_map]; rfl) (Nat.le_trans hl (by decide)) fun p hp => ?_]
  · rw [List.map_const']
  · refine ⟨_, rfl, ?_⟩
    exact vfin (st1 := []) rfl (h p hp).1 (h p hp).2

/-! P30b: the fields read; the law's rounds -/
def rep27 (x : D) : List D := List.replicate 27 x
theorem fields_ok {x : D} (hx : strip (.d x) = .d x) (st : Sto) : pureF m_l_fields [.d (.lst (exs x))] st = .ok (.d (.lst (rep27 x))) st := by
  refine pureF_d (st1 := []) rfl ?_
  have sl : ∀ (lo hi : Option Int) (st : Sto), oSl (.d (.lst (exs x))) lo hi st = .ok (.d (.lst (cutA (exs x) lo hi))) st := fun _ _ _ => rfl
  have c1 := fun ρ0 ρ1 => lcv (cl := ["InvalidRule", "InvalidNumber", "InvalidBase", "InvalidName", "InvalidEnds", "InvalidResult", "InvalidProgram", "InvalidFigures", "InvalidState", "InvalidRatio", "InvalidRows", "InvalidForm", "InvalidSign", "InvalidMachine", "UnknownName"]) (x := x) (lo := mNo) (hi := mPart (mC (.int 4))) (ρ0 := ρ0) (ρ1 := ρ1) (xs := ["InvalidRule", "InvalidNumber", "InvalidBase", "InvalidName"].map fun c => (c, [("value", x)])) (by rfl) (by simp) (by simp) (fun _ _ => rfl)
  have c2 := fun ρ0 ρ1 => lcv (cl := ["InvalidRule", "InvalidNumber", "InvalidBase", "InvalidName", "InvalidEnds", "InvalidResult", "InvalidProgram", "InvalidFigures", "InvalidState", "InvalidRatio", "InvalidRows", "InvalidForm", "InvalidSign", "InvalidMachine", "UnknownName"]) (x := x) (lo := mPart (mC (.int 7))) (hi := mPart (mC (.int 12))) (ρ0 := ρ0) (ρ1 := ρ1) (xs := ["InvalidEnds", "InvalidResult", "InvalidProgram", "InvalidFigures", "InvalidState"].map fun c => (c, [("value", x)])) (by rfl) (by simp) (by simp) (fun _ _ => rfl)
  have c3 := fun ρ0 ρ1 => lcv (cl := ["InvalidRule", "InvalidNumber", "InvalidBase", "InvalidName", "InvalidEnds", "InvalidResult", "InvalidProgram", "InvalidFigures", "InvalidState", "InvalidRatio", "InvalidRows", "InvalidForm", "InvalidSign", "InvalidMachine", "UnknownName"]) (x := x) (lo := mPart (mC (.int 13))) (hi := mPart (mC (.int 18))) (ρ0 := ρ0) (ρ1 := ρ1) (xs := ["InvalidRatio", "InvalidRows", "InvalidForm", "InvalidSign", "InvalidMachine"].map fun c => (c, [("value", x)])) (by rfl) (by simp) (by simp) (fun _ _ => rfl)
  have i4 : ∀ st, oIx (.d (.lst (exs x))) (.d (.int 4)) st = _ := exix (x := x) 4 rfl
  have i5 : ∀ st, oIx (.d (.lst (exs x))) (.d (.int 5)) st = _ := exix (x := x) 5 rfl
  have i6 : ∀ st, oIx (.d (.lst (exs x))) (.d (.int 6)) st = _ := exix (x := x) 6 rfl
  have i12 : ∀ st, oIx (.d (.lst (exs x))) (.d (.int 12)) st = _ := exix (x := x) 12 rfl
  have i18 : ∀ st, oIx (.d (.lst (exs x))) (.d (.int 18)) st = _ := exix (x := x) 18 rfl
  have i19 : ∀ st, oIx (.d (.lst (exs x))) (.d (.int 19)) st = _ := exix (x := x) 19 rfl
  have i20 : ∀ st, oIx (.d (.lst (exs x))) (.d (.int 20)) st = _ := exix (x := x) 20 rfl
  have i21 : ∀ st, oIx (.d (.lst (exs x))) (.d (.int 21)) st = _ := exix (x := x) 21 rfl
  have i23 : ∀ st, oIx (.d (.lst (exs x))) (.d (.int 23)) st = _ := exix (x := x) 23 rfl
  have i24 : ∀ st, oIx (.d (.lst (exs x))) (.d (.int 24)) st = _ := exix (x := x) 24 rfl
  have i25 : ∀ st, oIx (.d (.lst (exs x))) (.d (.int 25)) st = _ := exix (x := x) 25 rfl
  have i26 : ∀ st, oIx (.d (.lst (exs x))) (.d (.int 26)) st = _ := exix (x := x) 26 rfl
  have i30 : ∀ st, oIx (.d (.lst (exs x))) (.d (.int 30)) st = _ := exix (x := x) 30 rfl
  unfold m_l_fields
  simp only [mFun_eq', mSeq_eq, mIfS, mRet, mRetN, mAsg, mPar, mExpr, mSkip, mBrk, mCnt, mBad, mRaise, outE_ok, outT_ok, outE_er, seqO_nx, seqO_rt, seqO_er, retO_rt, retO_nx, retO_er, Res.bind_ok, Res.bind_er, Res.bind_bad, mVar_0, mVar_s, mVarI_0, mVarI_s, strip_ref, strip_non, strip_bl, strip_int, strip_str, strip_lst, strip_tup, strip_obj, strip_lck, strip_idn, mC, mBin, mUn, mTst, mCB, mCons, mNil, mStar, mAnd, mOr, mAndT, mOrT, mNotT, mIf, mTru, truV, mTup, mLst, ds?, ds?_map, mCall, withD, mFld, getF_o, getF_r, oNeg, oNot, oAbs, oMax, oMin, oI1, oI2, oInt, add_ii, sub_ii, lt_ii, le_ii, gt_ii, ge_ii, eq_ii, ne_ii, gN, gT_tup, gL_lst, gsC_cons, gsN_nil, List.map_cons, List.map_nil, List.length_cons, List.length_nil, List.cons_append, List.nil_append, List.append_nil, List.replicate_zero, List.replicate_succ, List.set_cons_zero, List.set_cons_succ, List.zip_cons_cons, List.zip_nil_right, List.foldl_cons, List.foldl_nil, Option.map_some, Option.map_none, Option.bind_some, Nat.reduceAdd, Nat.reduceSub, Nat.reduceEqDiff, Nat.reduceLT, Nat.reduceLeDiff, String.reduceEq, reduceCtorEq, Int.reduceLT, Int.reduceLE, Int.reduceEq, Int.reduceAdd, Int.reduceSub, Int.reduceNeg, Int.reduceMul, String.reduceBEq, decide_true, decide_false, if_true, if_false, ite_true, ite_false, Bool.false_eq_true, Bool.not_true, Bool.not_false, Bool.true_and, Bool.false_and, Bool.and_true, Bool.and_false, Bool.true_or, Bool.false_or, Bool.or_true, Bool.or_false, le0_l_fields, le1_l_fields, le2_l_fields, c1, c2, c3, i4, i5, i6, i12, i18, i19, i20, i21, i23, i24, i25, i26, i30, mVfIn, List.mem_cons, List.not_mem_nil, or_false, false_or, true_or, or_true, List.lookup_cons, add_ll, cap, List.length_map, List.length_replicate, List.length_append]
  rfl

/-! P30c: the law -/
theorem sl_len (s : String) : (Str.ofString s).length = s.length := ofString_length s
theorem shownAll_rep (p : PyData) : ∀ n, PyData.shownAll (List.replicate n p) = List.replicate n p.shown
  | 0 => by simp only [List.replicate_zero, PyData.shownAll]
  | n + 1 => by rw [List.replicate_succ, PyData.shownAll_cons, shownAll_rep p n, ← List.replicate_succ]
theorem toPs_rep (x : D) : ∀ n, toPs (List.replicate n x) = List.replicate n (toP x)
  | 0 => rfl
  | n + 1 => by
    show toP x :: toPs (List.replicate n x) = _
    rw [toPs_rep x n]
    rfl
theorem rpds_rep {k : Nat} {x : D} (h : rpd k x = true) : ∀ n, rpds k (List.replicate n x) = true
  | 0 => by simp [rpds]
  | n + 1 => by rw [List.replicate_succ, rpds, h, rpds_rep h n]; rfl
/-- a value that may be held -/
structure Held (x : D) : Prop where
  st : strip (.d x) = .d x
  rp : rpd 59 x = true
  sh : (toP x).shown.length ≤ 100
theorem held_repr {x : D} (h : Held x) (st : Sto) : oRepr [.d (.lst (rep27 x))] st = .ok (.d (.str (toP (.lst (rep27 x))).shown)) st := by
  unfold rep27
  show (if rpd 60 (.lst (List.replicate 27 x)) = true ∧ (toP (.lst (List.replicate 27 x))).shown.length ≤ cap then (Res.ok (.d (.str (toP (.lst (List.replicate 27 x))).shown)) st : Res Va) else .bad) = _
  refine if_pos ⟨by rw [rpd, show 60 - 1 = 59 from rfl, rpds_rep h.rp]; rfl, ?_⟩
  have e : toP (.lst (List.replicate 27 x)) = .list (List.replicate 27 (toP x)) := by rw [toP, toPs_rep]
  rw [e, PyData.shown_list, shownAll_rep]
  have hj := StrLaws.join_length_le (", " : Str) (List.replicate 27 (toP x).shown)
  rw [List.map_replicate, List.sum_replicate_nat, List.length_replicate] at hj
  have e1 : ((", " : String) : Str).length = 2 := rfl
  have e2 : (("[" : String) : Str).length = 1 := rfl
  have e3 : (("]" : String) : Str).length = 1 := rfl
  rw [strLen_append, strLen_append, e2, e3]
  rw [e1] at hj
  have := h.sh
  show _ ≤ 1000000
  omega
theorem held_int {d : Int} (h0 : 0 ≤ d) (h : d < 1000000000000000000000000000000) : Held (.int d) := by
  refine ⟨rfl, ?_, ?_⟩
  · rw [rpd, decide_eq_true_eq]
    exact Nat.lt_trans (log2_small (n := 100) (by omega) (by decide)) (by decide)
  · rw [toP, PyData.shown_int, sl_len]
    exact Nat.le_trans (int_text_length_le10 (k := 30) (by decide) (by omega)) (by decide)
abbrev itemsL (d : Int) : List D := [.non, .int 0, .int (-1), .str (Str.ofString "x"), .tup [.int 0, .int 1], .lst [.int 3], .dct [], .bl true, .int d]
theorem held_items {d : Int} (h0 : 0 ≤ d) (h : d < 1000000000000000000000000000000) : ∀ x ∈ itemsL d, Held x := by
  intro x hx
  simp only [itemsL, List.mem_cons, List.not_mem_nil, or_false] at hx
  rcases hx with rfl | rfl | rfl | rfl | rfl | rfl | rfl | rfl | rfl
  · exact ⟨rfl, by decide +kernel, by decide +kernel⟩
  · exact ⟨rfl, by decide +kernel, by decide +kernel⟩
  · exact ⟨rfl, by decide +kernel, by decide +kernel⟩
  · exact ⟨rfl, by decide +kernel, by decide +kernel⟩
  · exact ⟨rfl, by decide +kernel, by decide +kernel⟩
  · exact ⟨rfl, by decide +kernel, by decide +kernel⟩
  · exact ⟨rfl, by decide +kernel, by decide +kernel⟩
  · exact ⟨rfl, by decide +kernel, by decide +kernel⟩
  · exact held_int h0 h
theorem g_draw : m_l_draw = gDraw := rfl
theorem g_pool : m_l_pool = gPool := rfl
theorem choose_ok {A tl : Sto} {o : MO} {k : Nat} {xs : List D} (hk : A.length = k) (P : PoolO o) (h0 : 0 < xs.length) (h1 : xs.length < 1000) : ∃ x o', m_l_choose [.ref k, .d (.lst xs)] (A ++ o :: tl) = .ok (.d x) (A ++ o' :: tl) ∧ x ∈ xs ∧ PoolO o' := by
  obtain ⟨d, o', e, d1, d2, p⟩ := draw2 (tl := tl) (n := (xs.length : Int)) hk P (by omega) (by omega)
  obtain ⟨j, rfl⟩ : ∃ j : Nat, d = j := ⟨d.toNat, by omega⟩
  have hj : j < xs.length := by omega
  refine ⟨xs[j], o', ?_, List.getElem_mem hj, p⟩
  have e1 : atI xs (j : Int) = some xs[j] := by
    unfold atI ixN
    rw [if_pos (by omega), if_pos (by omega)]
    show xs[((j : Int).toNat)]? = _
    rw [Int.toNat_natCast, List.getElem?_eq_getElem hj]
  have e2 : oLen [.d (.lst xs)] (A ++ o :: tl) = .ok (.d (.int xs.length)) (A ++ o :: tl) := rfl
  unfold m_l_choose
  simp only [mFun_eq', mSeq_eq, mIfS, mRet, mRetN, mAsg, mPar, mExpr, mSkip, mBrk, mCnt, mBad, mRaise, outE_ok, outT_ok, outE_er, seqO_nx, seqO_rt, seqO_er, retO_rt, retO_nx, retO_er, Res.bind_ok, Res.bind_er, Res.bind_bad, mVar_0, mVar_s, mVarI_0, mVarI_s, strip_ref, strip_non, strip_bl, strip_int, strip_str, strip_lst, strip_tup, strip_obj, strip_lck, strip_idn, mC, mBin, mUn, mTst, mCB, mCons, mNil, mStar, mAnd, mOr, mAndT, mOrT, mNotT, mIf, mTru, truV, mTup, mLst, ds?, ds?_map, mCall, withD, mFld, getF_o, getF_r, oNeg, oNot, oAbs, oMax, oMin, oI1, oI2, oInt, add_ii, sub_ii, lt_ii, le_ii, gt_ii, ge_ii, eq_ii, ne_ii, gN, gT_tup, gL_lst, gsC_cons, gsN_nil, List.map_cons, List.map_nil, List.length_cons, List.length_nil, List.cons_append, List.nil_append, List.append_nil, List.replicate_zero, List.replicate_succ, List.set_cons_zero, List.set_cons_succ, List.zip_cons_cons, List.zip_nil_right, List.foldl_cons, List.foldl_nil, Option.map_some, Option.map_none, Option.bind_some, Nat.reduceAdd, Nat.reduceSub, Nat.reduceEqDiff, Nat.reduceLT, Nat.reduceLeDiff, String.reduceEq, reduceCtorEq, Int.reduceLT, Int.reduceLE, Int.reduceEq, Int.reduceAdd, Int.reduceSub, Int.reduceNeg, Int.reduceMul, String.reduceBEq, decide_true, decide_false, if_true, if_false, ite_true, ite_false, Bool.false_eq_true, Bool.not_true, Bool.not_false, Bool.true_and, Bool.false_and, Bool.and_true, Bool.and_false, Bool.true_or, Bool.false_or, Bool.or_true, Bool.or_false, e2, g_draw, e, ix_lst xs _ _ _ e1]
theorem lc_range {own : List Nat} {tg : MG} {te : ME} {ρ : Ev} {st : Sto} (n : Nat) (f : Nat → D) (hn : n ≤ 1000) (he : ∀ i < n, ∃ ρ1, tg (.d (.int (0 + (i : Int)))) (wipeE ρ own) = some ρ1 ∧ te ρ1 st = .ok (.d (f i)) st) :
    mLc own (mItR1 (mCons (mC (.int n)) mNil)) tg mYes te ρ st = .ok (.d (.lst ((List.range n).map f))) st := by
  refine mLc_map (l := List.range n) (g := fun i => Va.d (.int (0 + (i : Int)))) (f := f) ?_ (by rw [List.length_range]; show n ≤ 1000000; omega) fun i hi => he i (List.mem_range.mp hi)
  have ir : inR (n : Int) = true := by unfold inR; simp; omega
  simp only [mFun_eq', mSeq_eq, mIfS, mRet, mRetN, mAsg, mPar, mExpr, mSkip, mBrk, mCnt, mBad, mRaise, outE_ok, outT_ok, outE_er, seqO_nx, seqO_rt, seqO_er, retO_rt, retO_nx, retO_er, Res.bind_ok, Res.bind_er, Res.bind_bad, mVar_0, mVar_s, mVarI_0, mVarI_s, strip_ref, strip_non, strip_bl, strip_int, strip_str, strip_lst, strip_tup, strip_obj, strip_lck, strip_idn, mC, mBin, mUn, mTst, mCB, mCons, mNil, mStar, mAnd, mOr, mAndT, mOrT, mNotT, mIf, mTru, truV, mTup, mLst, ds?, ds?_map, mCall, withD, mFld, getF_o, getF_r, oNeg, oNot, oAbs, oMax, oMin, oI1, oI2, oInt, add_ii, sub_ii, lt_ii, le_ii, gt_ii, ge_ii, eq_ii, ne_ii, gN, gT_tup, gL_lst, gsC_cons, gsN_nil, List.map_cons, List.map_nil, List.length_cons, List.length_nil, List.cons_append, List.nil_append, List.append_nil, List.replicate_zero, List.replicate_succ, List.set_cons_zero, List.set_cons_succ, List.zip_cons_cons, List.zip_nil_right, List.foldl_cons, List.foldl_nil, Option.map_some, Option.map_none, Option.bind_some, Nat.reduceAdd, Nat.reduceSub, Nat.reduceEqDiff, Nat.reduceLT, Nat.reduceLeDiff, String.reduceEq, reduceCtorEq, Int.reduceLT, Int.reduceLE, Int.reduceEq, Int.reduceAdd, Int.reduceSub, Int.reduceNeg, Int.reduceMul, String.reduceBEq, decide_true, decide_false, if_true, if_false, ite_true, ite_false, Bool.false_eq_true, Bool.not_true, Bool.not_false, Bool.true_and, Bool.false_and, Bool.and_true, Bool.and_false, Bool.true_or, Bool.false_or, Bool.or_true, Bool.or_false, mItR1, ir]
  rfl
abbrev dueL : List Int := List.replicate 20 0 ++ [1, 2, 2] ++ List.replicate 7 3 ++ [4]
theorem okb {α : Type} (l : List α) (f : α → Bool) : okd 60 (.lst (l.map fun a => .bl (f a))) = true := by
  refine okd_lst (k := 59) ?_
  rw [okds_all, List.all_map]
  simp only [List.all_eq_true]
  intro x _
  rfl
/-- one class -/
theorem turn_ok {x : D} {a : Nat} (ha : a < 31) {c : String} {fs : List (String × D)} {du : Int} (hx : (exs x)[a]? = some (.exc c fs)) (hd : dueL[a]? = some du)
    (hk : ∀ st, pureF m_l_kinds [.d (.exc c fs)] st = .ok (.d (.lst ((List.range 31).map fun (s : Nat) => .bl (decide ((0 + (s : Int)) = a))))) st)
    (hb : ∀ st, pureF m_l_bases [.d (.exc c fs)] st = .ok (.d (.lst ((List.range 5).map fun (s : Nat) => .bl (decide ((0 + (s : Int)) = du) || (decide ((0 + (s : Int)) = 2) && decide (du = 4)))))) st) (s0 s2 s3 s4 s7 s8 : Option Va) (st : Sto) :
    ∃ s7', lf2_law [s0, some (.d (.lst (dueL.map .int))), s2, s3, s4, some (.d (.lst (exs x))), some (.d (.int a)), s7, s8] st = .nx [s0, some (.d (.lst (dueL.map .int))), s2, s3, s4, some (.d (.lst (exs x))), some (.d (.int a)), s7', s8] st := by
  have i1 : oIx (.d (.lst (dueL.map .int))) (.d (.int a)) st = .ok (.d (.int du)) st := ix_lst _ _ _ _ (by
    have : a < dueL.length := (List.getElem?_eq_some_iff.mp hd).1
    unfold atI ixN
    rw [if_pos (by omega), if_pos (by rw [List.length_map]; omega)]
    simp only [Int.toNat_natCast, Option.bind_some, List.getElem?_map, hd, Option.map_some])
  have i2 := exix (x := x) a hx st
  have l1 : ∀ (s7 s8 : Option Va), mLc [8] (mItR1 (mCons (mC (.int 5)) mNil)) (gN 8) mYes le0_law [s0, some (.d (.lst (dueL.map .int))), s2, s3, s4, some (.d (.lst (exs x))), some (.d (.int a)), s7, s8] st = .ok (.d (.lst ((List.range 5).map fun (s : Nat) => .bl (decide ((0 + (s : Int)) = du) || (decide ((0 + (s : Int)) = 2) && decide (du = 4)))))) st := fun s7 s8 => by
    refine lc_range 5 _ (by decide) fun i hi => ⟨[s0, some (.d (.lst (dueL.map .int))), s2, s3, s4, some (.d (.lst (exs x))), some (.d (.int a)), s7, some (.d (.int (0 + (i : Int))))], rfl, ?_⟩
    by_cases q : (0 + (i : Int)) = du
    · simp only [mFun_eq', mSeq_eq, mIfS, mRet, mRetN, mAsg, mPar, mExpr, mSkip, mBrk, mCnt, mBad, mRaise, outE_ok, outT_ok, outE_er, seqO_nx, seqO_rt, seqO_er, retO_rt, retO_nx, retO_er, Res.bind_ok, Res.bind_er, Res.bind_bad, mVar_0, mVar_s, mVarI_0, mVarI_s, strip_ref, strip_non, strip_bl, strip_int, strip_str, strip_lst, strip_tup, strip_obj, strip_lck, strip_idn, mC, mBin, mUn, mTst, mCB, mCons, mNil, mStar, mAnd, mOr, mAndT, mOrT, mNotT, mIf, mTru, truV, mTup, mLst, ds?, ds?_map, mCall, withD, mFld, getF_o, getF_r, oNeg, oNot, oAbs, oMax, oMin, oI1, oI2, oInt, add_ii, sub_ii, lt_ii, le_ii, gt_ii, ge_ii, eq_ii, ne_ii, gN, gT_tup, gL_lst, gsC_cons, gsN_nil, List.map_cons, List.map_nil, List.length_cons, List.length_nil, List.cons_append, List.nil_append, List.append_nil, List.replicate_zero, List.replicate_succ, List.set_cons_zero, List.set_cons_succ, List.zip_cons_cons, List.zip_nil_right, List.foldl_cons, List.foldl_nil, Option.map_some, Option.map_none, Option.bind_some, Nat.reduceAdd, Nat.reduceSub, Nat.reduceEqDiff, Nat.reduceLT, Nat.reduceLeDiff, String.reduceEq, reduceCtorEq, Int.reduceLT, Int.reduceLE, Int.reduceEq, Int.reduceAdd, Int.reduceSub, Int.reduceNeg, Int.reduceMul, String.reduceBEq, decide_true, decide_false, if_true, if_false, ite_true, ite_false, Bool.false_eq_true, Bool.not_true, Bool.not_false, Bool.true_and, Bool.false_and, Bool.and_true, Bool.and_false, Bool.true_or, Bool.false_or, Bool.or_true, Bool.or_false, le0_law, i1, q]
    · by_cases q2 : (0 + (i : Int)) = 2
      · have q3 : ¬((2 : Int) = du) := by omega
        simp only [mFun_eq', mSeq_eq, mIfS, mRet, mRetN, mAsg, mPar, mExpr, mSkip, mBrk, mCnt, mBad, mRaise, outE_ok, outT_ok, outE_er, seqO_nx, seqO_rt, seqO_er, retO_rt, retO_nx, retO_er, Res.bind_ok, Res.bind_er, Res.bind_bad, mVar_0, mVar_s, mVarI_0, mVarI_s, strip_ref, strip_non, strip_bl, strip_int, strip_str, strip_lst, strip_tup, strip_obj, strip_lck, strip_idn, mC, mBin, mUn, mTst, mCB, mCons, mNil, mStar, mAnd, mOr, mAndT, mOrT, mNotT, mIf, mTru, truV, mTup, mLst, ds?, ds?_map, mCall, withD, mFld, getF_o, getF_r, oNeg, oNot, oAbs, oMax, oMin, oI1, oI2, oInt, add_ii, sub_ii, lt_ii, le_ii, gt_ii, ge_ii, eq_ii, ne_ii, gN, gT_tup, gL_lst, gsC_cons, gsN_nil, List.map_cons, List.map_nil, List.length_cons, List.length_nil, List.cons_append, List.nil_append, List.append_nil, List.replicate_zero, List.replicate_succ, List.set_cons_zero, List.set_cons_succ, List.zip_cons_cons, List.zip_nil_right, List.foldl_cons, List.foldl_nil, Option.map_some, Option.map_none, Option.bind_some, Nat.reduceAdd, Nat.reduceSub, Nat.reduceEqDiff, Nat.reduceLT, Nat.reduceLeDiff, String.reduceEq, reduceCtorEq, Int.reduceLT, Int.reduceLE, Int.reduceEq, Int.reduceAdd, Int.reduceSub, Int.reduceNeg, Int.reduceMul, String.reduceBEq, decide_true, decide_false, if_true, if_false, ite_true, ite_false, Bool.false_eq_true, Bool.not_true, Bool.not_false, Bool.true_and, Bool.false_and, Bool.and_true, Bool.and_false, Bool.true_or, Bool.false_or, Bool.or_true, Bool.or_false, le0_law, i1, q, q2, q3]
      · simp only [mFun_eq', mSeq_eq, mIfS, mRet, mRetN, mAsg, mPar, mExpr, mSkip, mBrk, mCnt, mBad, mRaise, outE_ok, outT_ok, outE_er, seqO_nx, seqO_rt, seqO_er, retO_rt, retO_nx, retO_er, Res.bind_ok, Res.bind_er, Res.bind_bad, mVar_0, mVar_s, mVarI_0, mVarI_s, strip_ref, strip_non, strip_bl, strip_int, strip_str, strip_lst, strip_tup, strip_obj, strip_lck, strip_idn, mC, mBin, mUn, mTst, mCB, mCons, mNil, mStar, mAnd, mOr, mAndT, mOrT, mNotT, mIf, mTru, truV, mTup, mLst, ds?, ds?_map, mCall, withD, mFld, getF_o, getF_r, oNeg, oNot, oAbs, oMax, oMin, oI1, oI2, oInt, add_ii, sub_ii, lt_ii, le_ii, gt_ii, ge_ii, eq_ii, ne_ii, gN, gT_tup, gL_lst, gsC_cons, gsN_nil, List.map_cons, List.map_nil, List.length_cons, List.length_nil, List.cons_append, List.nil_append, List.append_nil, List.replicate_zero, List.replicate_succ, List.set_cons_zero, List.set_cons_succ, List.zip_cons_cons, List.zip_nil_right, List.foldl_cons, List.foldl_nil, Option.map_some, Option.map_none, Option.bind_some, Nat.reduceAdd, Nat.reduceSub, Nat.reduceEqDiff, Nat.reduceLT, Nat.reduceLeDiff, String.reduceEq, reduceCtorEq, Int.reduceLT, Int.reduceLE, Int.reduceEq, Int.reduceAdd, Int.reduceSub, Int.reduceNeg, Int.reduceMul, String.reduceBEq, decide_true, decide_false, if_true, if_false, ite_true, ite_false, Bool.false_eq_true, Bool.not_true, Bool.not_false, Bool.true_and, Bool.false_and, Bool.and_true, Bool.and_false, Bool.true_or, Bool.false_or, Bool.or_true, Bool.or_false, le0_law, i1, q, q2]
  have l2 : ∀ (s7 s8 : Option Va), mLc [8] (mItR1 (mCons (mC (.int 31)) mNil)) (gN 8) mYes le1_law [s0, some (.d (.lst (dueL.map .int))), s2, s3, s4, some (.d (.lst (exs x))), some (.d (.int a)), s7, s8] st = .ok (.d (.lst ((List.range 31).map fun (s : Nat) => .bl (decide ((0 + (s : Int)) = a))))) st := fun s7 s8 => by
    refine lc_range 31 _ (by decide) fun i hi => ⟨[s0, some (.d (.lst (dueL.map .int))), s2, s3, s4, some (.d (.lst (exs x))), some (.d (.int a)), s7, some (.d (.int (0 + (i : Int))))], rfl, ?_⟩
    simp only [mFun_eq', mSeq_eq, mIfS, mRet, mRetN, mAsg, mPar, mExpr, mSkip, mBrk, mCnt, mBad, mRaise, outE_ok, outT_ok, outE_er, seqO_nx, seqO_rt, seqO_er, retO_rt, retO_nx, retO_er, Res.bind_ok, Res.bind_er, Res.bind_bad, mVar_0, mVar_s, mVarI_0, mVarI_s, strip_ref, strip_non, strip_bl, strip_int, strip_str, strip_lst, strip_tup, strip_obj, strip_lck, strip_idn, mC, mBin, mUn, mTst, mCB, mCons, mNil, mStar, mAnd, mOr, mAndT, mOrT, mNotT, mIf, mTru, truV, mTup, mLst, ds?, ds?_map, mCall, withD, mFld, getF_o, getF_r, oNeg, oNot, oAbs, oMax, oMin, oI1, oI2, oInt, add_ii, sub_ii, lt_ii, le_ii, gt_ii, ge_ii, eq_ii, ne_ii, gN, gT_tup, gL_lst, gsC_cons, gsN_nil, List.map_cons, List.map_nil, List.length_cons, List.length_nil, List.cons_append, List.nil_append, List.append_nil, List.replicate_zero, List.replicate_succ, List.set_cons_zero, List.set_cons_succ, List.zip_cons_cons, List.zip_nil_right, List.foldl_cons, List.foldl_nil, Option.map_some, Option.map_none, Option.bind_some, Nat.reduceAdd, Nat.reduceSub, Nat.reduceEqDiff, Nat.reduceLT, Nat.reduceLeDiff, String.reduceEq, reduceCtorEq, Int.reduceLT, Int.reduceLE, Int.reduceEq, Int.reduceAdd, Int.reduceSub, Int.reduceNeg, Int.reduceMul, String.reduceBEq, decide_true, decide_false, if_true, if_false, ite_true, ite_false, Bool.false_eq_true, Bool.not_true, Bool.not_false, Bool.true_and, Bool.false_and, Bool.and_true, Bool.and_false, Bool.true_or, Bool.false_or, Bool.or_true, Bool.or_false, le1_law]
  have n1 := ne_self (okb (List.range 31) fun (s : Nat) => decide ((0 + (s : Int)) = a)) rfl st
  have n2 := ne_self (okb (List.range 5) fun (s : Nat) => decide ((0 + (s : Int)) = du) || (decide ((0 + (s : Int)) = 2) && decide (du = 4))) rfl st
  refine ⟨some (.d (.lst ((List.range 5).map fun (s : Nat) => .bl (decide ((0 + (s : Int)) = du) || (decide ((0 + (s : Int)) = 2) && decide (du = 4)))))), ?_⟩
  simp only [mFun_eq', mSeq_eq, mIfS, mRet, mRetN, mAsg, mPar, mExpr, mSkip, mBrk, mCnt, mBad, mRaise, outE_ok, outT_ok, outE_er, seqO_nx, seqO_rt, seqO_er, retO_rt, retO_nx, retO_er, Res.bind_ok, Res.bind_er, Res.bind_bad, mVar_0, mVar_s, mVarI_0, mVarI_s, strip_ref, strip_non, strip_bl, strip_int, strip_str, strip_lst, strip_tup, strip_obj, strip_lck, strip_idn, mC, mBin, mUn, mTst, mCB, mCons, mNil, mStar, mAnd, mOr, mAndT, mOrT, mNotT, mIf, mTru, truV, mTup, mLst, ds?, ds?_map, mCall, withD, mFld, getF_o, getF_r, oNeg, oNot, oAbs, oMax, oMin, oI1, oI2, oInt, add_ii, sub_ii, lt_ii, le_ii, gt_ii, ge_ii, eq_ii, ne_ii, gN, gT_tup, gL_lst, gsC_cons, gsN_nil, List.map_cons, List.map_nil, List.length_cons, List.length_nil, List.cons_append, List.nil_append, List.append_nil, List.replicate_zero, List.replicate_succ, List.set_cons_zero, List.set_cons_succ, List.zip_cons_cons, List.zip_nil_right, List.foldl_cons, List.foldl_nil, Option.map_some, Option.map_none, Option.bind_some, Nat.reduceAdd, Nat.reduceSub, Nat.reduceEqDiff, Nat.reduceLT, Nat.reduceLeDiff, String.reduceEq, reduceCtorEq, Int.reduceLT, Int.reduceLE, Int.reduceEq, Int.reduceAdd, Int.reduceSub, Int.reduceNeg, Int.reduceMul, String.reduceBEq, decide_true, decide_false, if_true, if_false, ite_true, ite_false, Bool.false_eq_true, Bool.not_true, Bool.not_false, Bool.true_and, Bool.false_and, Bool.and_true, Bool.and_false, Bool.true_or, Bool.false_or, Bool.or_true, Bool.or_false, lf2_law, l1, l2, i1, i2, hk, hb, n1, n2]

/-! P30d: the law's loops -/
theorem turns_ok {x : D} (a : Nat) (ha : a < 31) (s0 s2 s3 s4 s7 s8 : Option Va) (st : Sto) :
    ∃ s7', lf2_law [s0, some (.d (.lst (dueL.map .int))), s2, s3, s4, some (.d (.lst (exs x))), some (.d (.int a)), s7, s8] st = .nx [s0, some (.d (.lst (dueL.map .int))), s2, s3, s4, some (.d (.lst (exs x))), some (.d (.int a)), s7', s8] st := by
  match a, ha with
  | 0, ha => exact turn_ok (x := x) (du := 0) ha rfl rfl (kind0 _) (base0 _) s0 s2 s3 s4 s7 s8 st
  | 1, ha => exact turn_ok (x := x) (du := 0) ha rfl rfl (kind1 _) (base1 _) s0 s2 s3 s4 s7 s8 st
  | 2, ha => exact turn_ok (x := x) (du := 0) ha rfl rfl (kind2 _) (base2 _) s0 s2 s3 s4 s7 s8 st
  | 3, ha => exact turn_ok (x := x) (du := 0) ha rfl rfl (kind3 _) (base3 _) s0 s2 s3 s4 s7 s8 st
  | 4, ha => exact turn_ok (x := x) (du := 0) ha rfl rfl (kind4 _) (base4 _) s0 s2 s3 s4 s7 s8 st
  | 5, ha => exact turn_ok (x := x) (du := 0) ha rfl rfl (kind5 _) (base5 _) s0 s2 s3 s4 s7 s8 st
  | 6, ha => exact turn_ok (x := x) (du := 0) ha rfl rfl (kind6 _) (base6 _) s0 s2 s3 s4 s7 s8 st
  | 7, ha => exact turn_ok (x := x) (du := 0) ha rfl rfl (kind7 _) (base7 _) s0 s2 s3 s4 s7 s8 st
  | 8, ha => exact turn_ok (x := x) (du := 0) ha rfl rfl (kind8 _) (base8 _) s0 s2 s3 s4 s7 s8 st
  | 9, ha => exact turn_ok (x := x) (du := 0) ha rfl rfl (kind9 _) (base9 _) s0 s2 s3 s4 s7 s8 st
  | 10, ha => exact turn_ok (x := x) (du := 0) ha rfl rfl (kind10 _) (base10 _) s0 s2 s3 s4 s7 s8 st
  | 11, ha => exact turn_ok (x := x) (du := 0) ha rfl rfl (kind11 _) (base11 _) s0 s2 s3 s4 s7 s8 st
  | 12, ha => exact turn_ok (x := x) (du := 0) ha rfl rfl (kind12 _) (base12 _) s0 s2 s3 s4 s7 s8 st
  | 13, ha => exact turn_ok (x := x) (du := 0) ha rfl rfl (kind13 _) (base13 _) s0 s2 s3 s4 s7 s8 st
  | 14, ha => exact turn_ok (x := x) (du := 0) ha rfl rfl (kind14 _) (base14 _) s0 s2 s3 s4 s7 s8 st
  | 15, ha => exact turn_ok (x := x) (du := 0) ha rfl rfl (kind15 _) (base15 _) s0 s2 s3 s4 s7 s8 st
  | 16, ha => exact turn_ok (x := x) (du := 0) ha rfl rfl (kind16 _) (base16 _) s0 s2 s3 s4 s7 s8 st
  | 17, ha => exact turn_ok (x := x) (du := 0) ha rfl rfl (kind17 _) (base17 _) s0 s2 s3 s4 s7 s8 st
  | 18, ha => exact turn_ok (x := x) (du := 0) ha rfl rfl (kind18 _) (base18 _) s0 s2 s3 s4 s7 s8 st
  | 19, ha => exact turn_ok (x := x) (du := 0) ha rfl rfl (kind19 _) (base19 _) s0 s2 s3 s4 s7 s8 st
  | 20, ha => exact turn_ok (x := x) (du := 1) ha rfl rfl (kind20 _) (base20 _) s0 s2 s3 s4 s7 s8 st
  | 21, ha => exact turn_ok (x := x) (du := 2) ha rfl rfl (kind21 _) (base21 _) s0 s2 s3 s4 s7 s8 st
  | 22, ha => exact turn_ok (x := x) (du := 2) ha rfl rfl (kind22 _) (base22 _) s0 s2 s3 s4 s7 s8 st
  | 23, ha => exact turn_ok (x := x) (du := 3) ha rfl rfl (kind23 _) (base23 _) s0 s2 s3 s4 s7 s8 st
  | 24, ha => exact turn_ok (x := x) (du := 3) ha rfl rfl (kind24 _) (base24 _) s0 s2 s3 s4 s7 s8 st
  | 25, ha => exact turn_ok (x := x) (du := 3) ha rfl rfl (kind25 _) (base25 _) s0 s2 s3 s4 s7 s8 st
  | 26, ha => exact turn_ok (x := x) (du := 3) ha rfl rfl (kind26 _) (base26 _) s0 s2 s3 s4 s7 s8 st
  | 27, ha => exact turn_ok (x := x) (du := 3) ha rfl rfl (kind27 _) (base27 _) s0 s2 s3 s4 s7 s8 st
  | 28, ha => exact turn_ok (x := x) (du := 3) ha rfl rfl (kind28 _) (base28 _) s0 s2 s3 s4 s7 s8 st
  | 29, ha => exact turn_ok (x := x) (du := 3) ha rfl rfl (kind29 _) (base29 _) s0 s2 s3 s4 s7 s8 st
  | 30, ha => exact turn_ok (x := x) (du := 4) ha rfl rfl (kind30 _) (base30 _) s0 s2 s3 s4 s7 s8 st
  | n + 31, ha => exact absurd ha (by omega)
theorem made_turn {x : D} (hx : Held x) (s0 s2 s3 s6 s7 s8 : Option Va) (st : Sto) :
    ∃ s6' s7', lf3_law [s0, some (.d (.lst (dueL.map .int))), s2, s3, some (.d x), some (.d (.lst (exs x))), s6, s7, s8] st = .nx [s0, some (.d (.lst (dueL.map .int))), s2, s3, some (.d x), some (.d (.lst (exs x))), s6', s7', s8] st := by
  have r1 := fields_ok hx.st st
  have r2 := held_repr hx st
  have m27 : oMul (.d (.lst [x])) (.d (.int 27)) st = .ok (.d (.lst (rep27 x))) st := by rfl
  have m3 : oMul (.d (.lst [.str (Str.ofString "second")])) (.d (.int 3)) st = .ok (.d (.lst [sec, sec, sec])) st := by rfl
  have i6 : oIx (.d (.lst (exs x))) (.d (.int 6)) st = _ := exix (x := x) 6 rfl st
  have i24 : oIx (.d (.lst (exs x))) (.d (.int 24)) st = _ := exix (x := x) 24 rfl st
  have i26 : oIx (.d (.lst (exs x))) (.d (.int 26)) st = _ := exix (x := x) 26 rfl st
  have n0 : ∀ t, oNeS (.d (.str t)) (.d (.str t)) st = .ok (.d (.bl false)) st := fun t => by
    show Res.ok (Va.d (.bl (!decide (t = t)))) st = _
    rw [decide_eq_true rfl]
    rfl
  have n1 : oNe (.d (.lst [sec, sec, sec])) (.d (.lst [sec, sec, sec])) st = .ok (.d (.bl false)) st := ne_self (by decide +kernel) rfl st
  obtain ⟨ρ1, st1, h1, h2, h3⟩ := mFor_inv (mi := mItR1 (mCons (mC (.int 31)) mNil)) (tg := gN 6) (b := lf2_law) (l := rangeV 0 31) (ρ := [s0, some (.d (.lst (dueL.map .int))), s2, s3, some (.d x), some (.d (.lst (exs x))), s6, s7, s8]) (st := st) (st0 := st)
    (I := fun _ ρ s => s = st ∧ ∃ s6' s7', ρ = [s0, some (.d (.lst (dueL.map .int))), s2, s3, some (.d x), some (.d (.lst (exs x))), s6', s7', s8]) (by rfl) ⟨rfl, _, _, rfl⟩ fun j y hj ρ s hi => by
      obtain ⟨rfl, s6', s7', rfl⟩ := hi
      obtain ⟨rfl, hj2⟩ := rangeV_get hj
      obtain ⟨s7'', e⟩ := turns_ok (x := x) j hj2 s0 s2 s3 (some (.d x)) s7' s8 s
      rw [Int.zero_add]
      exact ⟨_, _, _, rfl, e, rfl, _, _, rfl⟩
  obtain ⟨s6', s7', rfl⟩ := h3
  subst h2
  refine ⟨s6', s7', ?_⟩
  unfold lf3_law
  simp only [mFun_eq', mSeq_eq, mIfS, mRet, mRetN, mAsg, mPar, mExpr, mSkip, mBrk, mCnt, mBad, mRaise, outE_ok, outT_ok, outE_er, seqO_nx, seqO_rt, seqO_er, retO_rt, retO_nx, retO_er, Res.bind_ok, Res.bind_er, Res.bind_bad, mVar_0, mVar_s, mVarI_0, mVarI_s, strip_ref, strip_non, strip_bl, strip_int, strip_str, strip_lst, strip_tup, strip_obj, strip_lck, strip_idn, mC, mBin, mUn, mTst, mCB, mCons, mNil, mStar, mAnd, mOr, mAndT, mOrT, mNotT, mIf, mTru, truV, mTup, mLst, ds?, ds?_map, mCall, withD, mFld, getF_o, getF_r, oNeg, oNot, oAbs, oMax, oMin, oI1, oI2, oInt, add_ii, sub_ii, lt_ii, le_ii, gt_ii, ge_ii, eq_ii, ne_ii, gN, gT_tup, gL_lst, gsC_cons, gsN_nil, List.map_cons, List.map_nil, List.length_cons, List.length_nil, List.cons_append, List.nil_append, List.append_nil, List.replicate_zero, List.replicate_succ, List.set_cons_zero, List.set_cons_succ, List.zip_cons_cons, List.zip_nil_right, List.foldl_cons, List.foldl_nil, Option.map_some, Option.map_none, Option.bind_some, Nat.reduceAdd, Nat.reduceSub, Nat.reduceEqDiff, Nat.reduceLT, Nat.reduceLeDiff, String.reduceEq, reduceCtorEq, Int.reduceLT, Int.reduceLE, Int.reduceEq, Int.reduceAdd, Int.reduceSub, Int.reduceNeg, Int.reduceMul, String.reduceBEq, decide_true, decide_false, if_true, if_false, ite_true, ite_false, Bool.false_eq_true, Bool.not_true, Bool.not_false, Bool.true_and, Bool.false_and, Bool.and_true, Bool.and_false, Bool.true_or, Bool.false_or, Bool.or_true, Bool.or_false, r1, r2, m27, m3, i6, i24, i26, n0, n1, mVfIn, List.mem_cons, List.not_mem_nil, or_false, false_or, true_or, or_true, List.lookup_cons, cap, hx.st]
  exact h1
theorem held_turn {ns : List Int} {k : Nat} (hk : k < 4) (s3 s4 s5 s6 s7 s8 : Option Va) (st : Sto) :
    ∃ s3' s4' s5' s6' s7' st', lf4_law [some (.d (.lck ns)), some (.d (.lst (dueL.map .int))), some (.d (.int k)), s3, s4, s5, s6, s7, s8] st = .nx [some (.d (.lck ns)), some (.d (.lst (dueL.map .int))), some (.d (.int k)), s3', s4', s5', s6', s7', s8] st' := by
  obtain ⟨o, e1, p1⟩ := pool2 (ns := ns) (j := k) (st := st) (by omega)
  obtain ⟨d, o2, e2, d1, d2, p2⟩ := draw2 (A := st) (tl := []) (k := st.length) (n := 1000000000000000000000000000000) rfl p1 (by decide) (by decide)
  obtain ⟨x, o3, e3, hm, p3⟩ := choose_ok (A := st) (tl := []) (k := st.length) (xs := itemsL d) rfl p2 (by simp) (by simp)
  have hx := held_items d1 d2 x hm
  have p30 : ∀ st, oPow (.d (.int 10)) (.d (.int 30)) st = .ok (.d (.int 1000000000000000000000000000000)) st := fun st => by
    show (if CPow 10 30 then (Res.ok (.d (.int ((10 : Int) ^ (30 : Int).toNat))) st : Res Va) else .bad) = _
    rw [if_pos ⟨by decide, by decide, by decide⟩]
    rfl
  have mk := made_ok hx.st (st ++ [o3])
  have nm := named_ok hx.st (st ++ [o3])
  obtain ⟨ρ1, st1, h1, h2, s6', s7', s5', rfl⟩ := mFor_inv (mi := mItS (mLst (mCons (mCall (withD [] (pureF m_l_made)) (mCons (mVar 4) mNil)) (mCons (mCall (withD [] (pureF m_l_named)) (mCons (mVar 4) mNil)) mNil)))) (tg := gN 5) (b := lf3_law) (l := [.d (.lst (exs x)), .d (.lst (exs x))])
    (ρ := [some (.d (.lck ns)), some (.d (.lst (dueL.map .int))), some (.d (.int k)), some (.ref st.length), some (.d x), s5, s6, s7, s8]) (st := st ++ [o3]) (st0 := st ++ [o3])
    (I := fun _ ρ s => s = st ++ [o3] ∧ ∃ s6' s7' s5', ρ = [some (.d (.lck ns)), some (.d (.lst (dueL.map .int))), some (.d (.int k)), some (.ref st.length), some (.d x), s5', s6', s7', s8])
    (by rw [itS_lst (xs := [.lst (exs x), .lst (exs x)]) (st1 := st ++ [o3]) (by simp only [mFun_eq', mSeq_eq, mIfS, mRet, mRetN, mAsg, mPar, mExpr, mSkip, mBrk, mCnt, mBad, mRaise, outE_ok, outT_ok, outE_er, seqO_nx, seqO_rt, seqO_er, retO_rt, retO_nx, retO_er, Res.bind_ok, Res.bind_er, Res.bind_bad, mVar_0, mVar_s, mVarI_0, mVarI_s, strip_ref, strip_non, strip_bl, strip_int, strip_str, strip_lst, strip_tup, strip_obj, strip_lck, strip_idn, mC, mBin, mUn, mTst, mCB, mCons, mNil, mStar, mAnd, mOr, mAndT, mOrT, mNotT, mIf, mTru, truV, mTup, mLst, ds?, ds?_map, mCall, withD, mFld, getF_o, getF_r, oNeg, oNot, oAbs, oMax, oMin, oI1, oI2, oInt, add_ii, sub_ii, lt_ii, le_ii, gt_ii, ge_ii, eq_ii, ne_ii, gN, gT_tup, gL_lst, gsC_cons, gsN_nil, List.map_cons, List.map_nil, List.length_cons, List.length_nil, List.cons_append, List.nil_append, List.append_nil, List.replicate_zero, List.replicate_succ, List.set_cons_zero, List.set_cons_succ, List.zip_cons_cons, List.zip_nil_right, List.foldl_cons, List.foldl_nil, Option.map_some, Option.map_none, Option.bind_some, Nat.reduceAdd, Nat.reduceSub, Nat.reduceEqDiff, Nat.reduceLT, Nat.reduceLeDiff, String.reduceEq, reduceCtorEq, Int.reduceLT, Int.reduceLE, Int.reduceEq, Int.reduceAdd, Int.reduceSub, Int.reduceNeg, Int.reduceMul, String.reduceBEq, decide_true, decide_false, if_true, if_false, ite_true, ite_false, Bool.false_eq_true, Bool.not_true, Bool.not_false, Bool.true_and, Bool.false_and, Bool.and_true, Bool.and_false, Bool.true_or, Bool.false_or, Bool.or_true, Bool.or_false, mk, nm, hx.st, cap])]; rfl) ⟨rfl, _, _, _, rfl⟩ fun j y hj ρ s hi => by
      obtain ⟨rfl, s6', s7', s5', rfl⟩ := hi
      have hy : y = .d (.lst (exs x)) := by
        match j, hj with
        | 0, hj => cases hj; rfl
        | 1, hj => cases hj; rfl
      subst hy
      obtain ⟨s6'', s7'', e⟩ := made_turn hx (some (.d (.lck ns))) (some (.d (.int k))) (some (.ref st.length)) s6' s7' s8 (st ++ [o3])
      exact ⟨_, _, _, rfl, e, rfl, _, _, _, rfl⟩
  refine ⟨some (.ref st.length), some (.d x), s5', s6', s7', st1, ?_⟩
  unfold lf4_law
  have e1' := e1
  have e3' : m_l_choose [Va.ref st.length, Va.d (D.lst [D.non, D.int 0, D.int (-1), D.str (Str.ofString "x"), D.tup [D.int 0, D.int 1], D.lst [D.int 3], D.dct [], D.bl true, D.int d])] (st ++ [o2]) = .ok (.d x) (st ++ [o3]) := e3
  simp only [mFun_eq', mSeq_eq, mIfS, mRet, mRetN, mAsg, mPar, mExpr, mSkip, mBrk, mCnt, mBad, mRaise, outE_ok, outT_ok, outE_er, seqO_nx, seqO_rt, seqO_er, retO_rt, retO_nx, retO_er, Res.bind_ok, Res.bind_er, Res.bind_bad, mVar_0, mVar_s, mVarI_0, mVarI_s, strip_ref, strip_non, strip_bl, strip_int, strip_str, strip_lst, strip_tup, strip_obj, strip_lck, strip_idn, mC, mBin, mUn, mTst, mCB, mCons, mNil, mStar, mAnd, mOr, mAndT, mOrT, mNotT, mIf, mTru, truV, mTup, mLst, ds?, ds?_map, mCall, withD, mFld, getF_o, getF_r, oNeg, oNot, oAbs, oMax, oMin, oI1, oI2, oInt, add_ii, sub_ii, lt_ii, le_ii, gt_ii, ge_ii, eq_ii, ne_ii, gN, gT_tup, gL_lst, gsC_cons, gsN_nil, List.map_cons, List.map_nil, List.length_cons, List.length_nil, List.cons_append, List.nil_append, List.append_nil, List.replicate_zero, List.replicate_succ, List.set_cons_zero, List.set_cons_succ, List.zip_cons_cons, List.zip_nil_right, List.foldl_cons, List.foldl_nil, Option.map_some, Option.map_none, Option.bind_some, Nat.reduceAdd, Nat.reduceSub, Nat.reduceEqDiff, Nat.reduceLT, Nat.reduceLeDiff, String.reduceEq, reduceCtorEq, Int.reduceLT, Int.reduceLE, Int.reduceEq, Int.reduceAdd, Int.reduceSub, Int.reduceNeg, Int.reduceMul, String.reduceBEq, decide_true, decide_false, if_true, if_false, ite_true, ite_false, Bool.false_eq_true, Bool.not_true, Bool.not_false, Bool.true_and, Bool.false_and, Bool.and_true, Bool.and_false, Bool.true_or, Bool.false_or, Bool.or_true, Bool.or_false, g_pool, e1, g_draw, e2, e3', p30, mDct0, hx.st, cap]
  exact h1
def r20 : List D := List.replicate 20 (D.int 0)
def r7 : List D := List.replicate 7 (D.int 3)
def r23 : List D := r20 ++ [.int 1, .int 2, .int 2]
def r30 : List D := r23 ++ r7
theorem law_true (ns : List Int) (h : ns.length ≤ 63) : ∃ st, m_law [.d (.lck ns)] [] = .ok (.d (.bl true)) st := by
  have due : ∀ st, oAdd (.d (.lst (r30))) (.d (.lst [.int 4])) st = .ok (.d (.lst (dueL.map .int))) st := fun st => by rfl
  have m20 : ∀ st, oMul (.d (.lst [.int 0])) (.d (.int 20)) st = .ok (.d (.lst (r20))) st := fun st => by rfl
  have m7 : ∀ st, oMul (.d (.lst [.int 3])) (.d (.int 7)) st = .ok (.d (.lst (r7))) st := fun st => by rfl
  have a1 : ∀ st, oAdd (.d (.lst (r20))) (.d (.lst [.int 1, .int 2, .int 2])) st = .ok (.d (.lst (r23))) st := fun st => by rfl
  have a2 : ∀ st, oAdd (.d (.lst (r23))) (.d (.lst (r7))) st = .ok (.d (.lst (r30))) st := fun st => by rfl
  have ln : ∀ st, oLen [.d (.lck ns)] st = .ok (.d (.int ns.length)) st := fun st => by rfl
  obtain ⟨n, hn, hn4⟩ : ∃ n : Nat, (if (if (4 : Int) < ns.length then (4 : Int) else ns.length) > 1 then (if (4 : Int) < ns.length then (4 : Int) else ns.length) else 1) = n ∧ n ≤ 4 := by
    refine ⟨(if (if (4 : Int) < ns.length then (4 : Int) else ns.length) > 1 then (if (4 : Int) < ns.length then (4 : Int) else ns.length) else 1).toNat, ?_, ?_⟩ <;> (repeat' split) <;> omega
  have ir : inR (n : Int) = true := by unfold inR; simp; omega
  obtain ⟨ρ1, st1, h1, s2, s3, s4, s5, s6, s7, s8, rfl⟩ := mFor_inv (mi := mItR1 (mCons (mCB oMax (mCons (mC (.int 1)) (mCons (mCB oMin (mCons (mCB oLen (mCons (mVar 0) mNil)) (mCons (mC (.int 4)) mNil))) mNil))) mNil)) (tg := gN 2) (b := lf4_law) (l := rangeV 0 n)
    (ρ := [some (.d (.lck ns)), some (.d (.lst (dueL.map .int))), none, none, none, none, none, none, none]) (st := []) (st0 := [])
    (I := fun _ ρ _ => ∃ s2 s3 s4 s5 s6 s7 s8, ρ = [some (.d (.lck ns)), some (.d (.lst (dueL.map .int))), s2, s3, s4, s5, s6, s7, s8]) (by
      simp only [mFun_eq', mSeq_eq, mIfS, mRet, mRetN, mAsg, mPar, mExpr, mSkip, mBrk, mCnt, mBad, mRaise, outE_ok, outT_ok, outE_er, seqO_nx, seqO_rt, seqO_er, retO_rt, retO_nx, retO_er, Res.bind_ok, Res.bind_er, Res.bind_bad, mVar_0, mVar_s, mVarI_0, mVarI_s, strip_ref, strip_non, strip_bl, strip_int, strip_str, strip_lst, strip_tup, strip_obj, strip_lck, strip_idn, mC, mBin, mUn, mTst, mCB, mCons, mNil, mStar, mAnd, mOr, mAndT, mOrT, mNotT, mIf, mTru, truV, mTup, mLst, ds?, ds?_map, mCall, withD, mFld, getF_o, getF_r, oNeg, oNot, oAbs, oMax, oMin, oI1, oI2, oInt, add_ii, sub_ii, lt_ii, le_ii, gt_ii, ge_ii, eq_ii, ne_ii, gN, gT_tup, gL_lst, gsC_cons, gsN_nil, List.map_cons, List.map_nil, List.length_cons, List.length_nil, List.cons_append, List.nil_append, List.append_nil, List.replicate_zero, List.replicate_succ, List.set_cons_zero, List.set_cons_succ, List.zip_cons_cons, List.zip_nil_right, List.foldl_cons, List.foldl_nil, Option.map_some, Option.map_none, Option.bind_some, Nat.reduceAdd, Nat.reduceSub, Nat.reduceEqDiff, Nat.reduceLT, Nat.reduceLeDiff, String.reduceEq, reduceCtorEq, Int.reduceLT, Int.reduceLE, Int.reduceEq, Int.reduceAdd, Int.reduceSub, Int.reduceNeg, Int.reduceMul, String.reduceBEq, decide_true, decide_false, if_true, if_false, ite_true, ite_false, Bool.false_eq_true, Bool.not_true, Bool.not_false, Bool.true_and, Bool.false_and, Bool.and_true, Bool.and_false, Bool.true_or, Bool.false_or, Bool.or_true, Bool.or_false, mItR1, ln]
      rw [hn, if_pos ir]
      simp) ⟨_, _, _, _, _, _, _, rfl⟩ fun j y hj ρ s hi => by
      obtain ⟨s2, s3, s4, s5, s6, s7, s8, rfl⟩ := hi
      obtain ⟨rfl, hj2⟩ := rangeV_get hj
      obtain ⟨s3', s4', s5', s6', s7', st', e⟩ := held_turn (ns := ns) (k := j) (by omega) s3 s4 s5 s6 s7 s8 s
      rw [Int.zero_add]
      exact ⟨_, _, _, rfl, e, _, _, _, _, _, _, _, rfl⟩
  refine ⟨st1, ?_⟩
  unfold m_law
  simp only [mFun_eq', mSeq_eq, mIfS, mRet, mRetN, mAsg, mPar, mExpr, mSkip, mBrk, mCnt, mBad, mRaise, outE_ok, outT_ok, outE_er, seqO_nx, seqO_rt, seqO_er, retO_rt, retO_nx, retO_er, Res.bind_ok, Res.bind_er, Res.bind_bad, mVar_0, mVar_s, mVarI_0, mVarI_s, strip_ref, strip_non, strip_bl, strip_int, strip_str, strip_lst, strip_tup, strip_obj, strip_lck, strip_idn, mC, mBin, mUn, mTst, mCB, mCons, mNil, mStar, mAnd, mOr, mAndT, mOrT, mNotT, mIf, mTru, truV, mTup, mLst, ds?, ds?_map, mCall, withD, mFld, getF_o, getF_r, oNeg, oNot, oAbs, oMax, oMin, oI1, oI2, oInt, add_ii, sub_ii, lt_ii, le_ii, gt_ii, ge_ii, eq_ii, ne_ii, gN, gT_tup, gL_lst, gsC_cons, gsN_nil, List.map_cons, List.map_nil, List.length_cons, List.length_nil, List.cons_append, List.nil_append, List.append_nil, List.replicate_zero, List.replicate_succ, List.set_cons_zero, List.set_cons_succ, List.zip_cons_cons, List.zip_nil_right, List.foldl_cons, List.foldl_nil, Option.map_some, Option.map_none, Option.bind_some, Nat.reduceAdd, Nat.reduceSub, Nat.reduceEqDiff, Nat.reduceLT, Nat.reduceLeDiff, String.reduceEq, reduceCtorEq, Int.reduceLT, Int.reduceLE, Int.reduceEq, Int.reduceAdd, Int.reduceSub, Int.reduceNeg, Int.reduceMul, String.reduceBEq, decide_true, decide_false, if_true, if_false, ite_true, ite_false, Bool.false_eq_true, Bool.not_true, Bool.not_false, Bool.true_and, Bool.false_and, Bool.and_true, Bool.and_false, Bool.true_or, Bool.false_or, Bool.or_true, Bool.or_false, m20, m7, a1, a2, due, cap]
  simp only [oMax, oMin] at h1
  rw [h1]
  rfl

def loose0 : List Str := ["__name__", "InvalidRule", "InvalidNumber", "InvalidBase", "InvalidName", "InvalidRegisters", "InvalidModes", "InvalidRow", "InvalidEnds", "InvalidResult", "InvalidProgram", "InvalidFigures", "InvalidState", "InvalidText", "InvalidRatio", "InvalidRows", "InvalidForm", "InvalidPieces", "InvalidCommand", "InvalidSign", "InvalidMachine", "UnknownName", "Endless", "DivisionByZero", "Parted", "Unlike", "Broken", "Guarded", "NothingToUndo", "NothingToRedo"]
def loose1 : List Str := ["NoTrial", "LimitExceeded", "__name__", "_law_pool", "_law_draw", "_law_choose", "_law_made", "_law_named", "_law_fields", "_law_kinds", "_law_bases"]
def looseA : List Str := loose0 ++ loose1
abbrev RR : PySem.W.OpenRow := PySem.W.OpenLaw.row PySem.Challenge.rw_twodivisions_k30_error_classes
abbrev hk : PySem.W.Hook := hookM 5 tab exK fns
def ob (s : PySem.W.SharedT) : He.AlD := obsMG 5 tab exK fns (HandSHeadRun.getT s)
theorem ob_eq (s : PySem.W.SharedT) : ob s = hk.obs s.abs := obsMG_eq (HandSHeadRun.getT_eq s)
theorem headRun (w : World) : HandSHeadRun.RunEq RR (PySem.W.view RR.prog [41]) hk ob 20000 looseA w := by
  intro os
  kernel_rfl
theorem facts {P : Program} {w : World} {K : PySem.W.Frag} {h : Heap} {mg : Str → Option Value} {f : Addr} (X : K.In h) (G : h.Ns mainGlobals mg) (hfa : mg ("law" : Str) = some (.ref f)) (c : SaysM tab exK fns K) :
    ∃ (fd : FuncData) (sp : Sp), (∀ (s : Shared) (v : Value), BindsTo s fd ⟨[v], []⟩ [("_law_script", v)]) ∧ (∀ (H : Hp) (a : Addr) (ns : List Int), ns.length ≤ 63 → SqL K H a (ns.map V.int) → sp [.ref a] H (fun v _ => v = .bl true) fun _ _ _ => False) ∧ ∀ base : Heap, K.In base → base.Ns mainGlobals mg → FnG P w K mg base (L2.CX P w) 4 f fd ["_law_script"] sp := by
  have T : Tx tab exK fns K mg w := ⟨c, fun x o e => by
    cases o with
    | none => exact PySem.W.mg_none_of X G e
    | some v => exact PySem.W.mg_of X G e⟩
  have e := hfa.symm.trans (T.gl 39)
  cases e
  obtain ⟨fd, F⟩ := c.def_ 8
  have b := FunD.bindsA (ps := ["_law_script"]) F fun _ _ _ _ _ _ us hl => match us, hl with | [_], _ => rfl
  exact ⟨fd, spM (GG T) m_law, fun s v => b s [v] rfl, fun H a ns hl hS => sp_law (G := (GG T)) hS (law_true ns hl), fun base _ _ => fn_law T fd F⟩
end My
open PySem PySem.W PySem.Calls PyProof.Rows
set_option maxRecDepth 100000 in
set_option maxHeartbeats 0 in
theorem PySem.Challenge.cw_twodivisions_k30_error_classes_holds : PySem.Challenge.rw_twodivisions_k30_error_classes.Holds := by
  w_on; o_law
  refine HandSHeadRun.head_any (r := OpenLaw.row PySem.Challenge.rw_twodivisions_k30_error_classes) (q := view (OpenLaw.row PySem.Challenge.rw_twodivisions_k30_error_classes).prog [41]) (H := My.hk) (ob := My.ob) (M := 20000) (loose := My.looseA) (d := HandSHeadRun.topDef (OpenLaw.row PySem.Challenge.rw_twodivisions_k30_error_classes).prog 41) (kwd := []) My.ob_eq
    (by kernel_rfl) (fun s => by kernel_rfl) My.headRun (by kernel_rfl) (by kernel_rfl) (by kernel_rfl) (by rfl) (by first | assumption | decide +kernel) (by decide +kernel) ⟨rfl, rfl, rfl, rfl, rfl, by decide +kernel⟩ ?hw ?hc
  case hw => w_witness2
  case hc =>
    refine My.walk_ofG (l := PySem.Challenge.rw_twodivisions_k30_error_classes) (n := 63) (k := 4) (x := "_law_script") rfl (by decide) (by kernel_rfl) ⟨rfl, by decide, by decide⟩ ?F
    intro w mg fa h Y G hmg0
    obtain ⟨K, KX, c⟩ := Y
    have hmg : mg ("law" : PySem.Str) = some (.ref fa) := by
      have e : (HandSHeadRun.topDef (OpenLaw.row PySem.Challenge.rw_twodivisions_k30_error_classes).prog 41).name = ("law" : PySem.Str) := by kernel_rfl
      rw [← e]
      exact hmg0
    obtain ⟨fd, sp, hb, hsp, hF⟩ := My.facts (P := (PySem.Challenge.rw_twodivisions_k30_error_classes).prog) (w := w) KX G hmg c
    exact ⟨K, fd, sp, KX, hb, fun H a ns hl _ hS => hsp H a ns hl hS, hF⟩
