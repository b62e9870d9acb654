/-
  s: the parts PBack of the proof.
-/
import Derived.Test.YthiadenmljbdaaaGreatDoorB10s
section
namespace Go.Proofs.YthiadenmljbdaaaGreatDoor
namespace P
theorem name_ne {a s : ByteArray} (h : nameB a = true) (hs : nameB s = false) : decide (a = s) = false := decide_eq_false (fun e => by subst e; rw [hs] at h; cases h)
theorem num_ne {m : List Nat} {s : ByteArray} (hs : ¬ N.okTxt s.data.toList) : decide ((⟨(N.txt (N.nv m)).toArray⟩ : ByteArray) = s) = false := decide_eq_false (fun e => by subst e; exact hs (N.okTxt_txt _))
def cl (r : List Wd) : Nat := if isW ⟨#[97, 110, 100]⟩ r then 4 else if isW ⟨#[111, 114]⟩ r then 3 else if isW ⟨#[105, 109, 112, 108, 105, 101, 115]⟩ r then 2 else if isW ⟨#[105, 102, 102]⟩ r then 1 else 0
def NoT (r : List Wd) : Prop := isW ⟨#[43]⟩ r = false ∧ isW ⟨#[45]⟩ r = false ∧ isW ⟨#[42]⟩ r = false
theorem cl_and {r : List Wd} (h : cl r < 4) : isW ⟨#[97, 110, 100]⟩ r = false := by
  unfold cl at h
  split at h
  · omega
  · simpa using ‹¬ isW ⟨#[97, 110, 100]⟩ r = true›
theorem cl_or {r : List Wd} (h : cl r < 3) : isW ⟨#[111, 114]⟩ r = false := by
  unfold cl at h
  split at h
  · omega
  split at h
  · omega
  · simpa using ‹¬ isW ⟨#[111, 114]⟩ r = true›
theorem cl_imp {r : List Wd} (h : cl r < 2) : isW ⟨#[105, 109, 112, 108, 105, 101, 115]⟩ r = false := by
  unfold cl at h
  split at h
  · omega
  split at h
  · omega
  split at h
  · omega
  · simpa using ‹¬ isW ⟨#[105, 109, 112, 108, 105, 101, 115]⟩ r = true›
theorem cl_iff {r : List Wd} (h : cl r < 1) : isW ⟨#[105, 102, 102]⟩ r = false := by
  unfold cl at h
  split at h
  · omega
  split at h
  · omega
  split at h
  · omega
  split at h
  · omega
  · simpa using ‹¬ isW ⟨#[105, 102, 102]⟩ r = true›
def ntOf (n : Nat) : NT := if n = 1 then .form else if n = 2 then .impl else if n = 3 then .ored else if n = 4 then .anded else if n = 5 then .notted else .prim
def At (e n : Nat) (l r : List Wd) (t : T) : Prop := if n = 1 then ∀ u s, Rds e (.formL t) r u s → Rds e .form (l ++ r) u s else Rds e (ntOf n) (l ++ r) t r
theorem At.one {e : Nat} {l r : List Wd} {t : T} (h : At e 1 l r t) : ∀ u s, Rds e (.formL t) r u s → Rds e .form (l ++ r) u s := h
theorem At.of {e n : Nat} {l r : List Wd} {t : T} (h : At e n l r t) (hn : n ≠ 1) : Rds e (ntOf n) (l ++ r) t r := by
  unfold At at h
  rwa [if_neg hn] at h
theorem At.mk1 {e : Nat} {l r : List Wd} {t : T} (h : ∀ u s, Rds e (.formL t) r u s → Rds e .form (l ++ r) u s) : At e 1 l r t := h
theorem At.mk {e n : Nat} {l r : List Wd} {t : T} (hn : n ≠ 1) (h : Rds e (ntOf n) (l ++ r) t r) : At e n l r t := by
  unfold At
  rwa [if_neg hn]
def Plain (l : List Wd) : Prop := isW ⟨#[110, 111, 116]⟩ l = false ∧ isW ⟨#[115, 111, 109, 101]⟩ l = false ∧ isW ⟨#[97, 108, 108]⟩ l = false
theorem up65 {e : Nat} {l r : List Wd} {t : T} (h : At e 6 l r t) (hp : Plain (l ++ r)) : At e 5 l r t := At.mk (by decide) (r_notted hp.1 hp.2.1 hp.2.2 (h.of (by decide)))
theorem up54 {e : Nat} {l r : List Wd} {t : T} (h : At e 5 l r t) (hc : cl r < 4) : At e 4 l r t := At.mk (by decide) (r_anded0 (h.of (by decide)) (cl_and hc))
theorem up43 {e : Nat} {l r : List Wd} {t : T} (h : At e 4 l r t) (hc : cl r < 3) : At e 3 l r t := At.mk (by decide) (r_ored0 (h.of (by decide)) (cl_or hc))
theorem up32 {e : Nat} {l r : List Wd} {t : T} (h : At e 3 l r t) (hc : cl r < 2) : At e 2 l r t := At.mk (by decide) (r_impl0 (h.of (by decide)) (cl_imp hc))
theorem up21 {e : Nat} {l r : List Wd} {t : T} (h : At e 2 l r t) : At e 1 l r t := At.mk1 fun u s hu => r_form (h.of (by decide)) hu
theorem up {e n m : Nat} {l r : List Wd} {t : T} (h : At e n l r t) (hm : 1 ≤ m) (hmn : m ≤ n) (hn : n ≤ 5) (hc : cl r < max m 2) : At e m l r t := by
  have a5 : n = 5 → m ≤ 4 → At e 4 l r t := fun hn5 hm4 => by subst hn5; exact up54 h (by omega)
  have a4 : m ≤ 4 → 4 ≤ n → At e 4 l r t := fun h1 h2 => by
    by_cases e5 : n = 5
    · exact a5 e5 h1
    · obtain rfl : n = 4 := by omega
      exact h
  have a3 : m ≤ 3 → 3 ≤ n → At e 3 l r t := fun h1 h2 => by
    by_cases e4 : 4 ≤ n
    · exact up43 (a4 (by omega) e4) (by omega)
    · obtain rfl : n = 3 := by omega
      exact h
  have a2 : m ≤ 2 → 2 ≤ n → At e 2 l r t := fun h1 h2 => by
    by_cases e3 : 3 ≤ n
    · exact up32 (a3 (by omega) e3) (by omega)
    · obtain rfl : n = 2 := by omega
      exact h
  have : m = 1 ∨ m = 2 ∨ m = 3 ∨ m = 4 ∨ m = 5 := by omega
  rcases this with rfl | rfl | rfl | rfl | rfl
  · by_cases e2 : 2 ≤ n
    · exact up21 (a2 (by omega) e2)
    · obtain rfl : n = 1 := by omega
      exact h
  · exact a2 (by omega) hmn
  · exact a3 (by omega) hmn
  · exact a4 (by omega) hmn
  · obtain rfl : n = 5 := by omega
    exact h
def Fol (least : Nat) (last : Bool) (r : List Wd) : Prop := NoT r ∧ (last = true → cl r = 0) ∧ cl r < max least 2
def TermOK (e : Nat) (t : T) : Prop :=
  (∀ l r, keys l = toks (body t true) → isW ⟨#[42]⟩ r = false → ∀ u s, Rds e (.sumL t) r u s → Rds e .sum (l ++ r) u s) ∧
  (∀ l r, keys l = toks (tight (pt t)) → isW ⟨#[42]⟩ r = false → Rds e .oper (l ++ r) t r)
def BodyOK (e : Nat) (t : T) : Prop := ∀ last l r, keys l = toks (body t last) → (binds t.k = true → last = true) → NoT r → (last = true → cl r = 0) → cl r < max (level t.k) 2 → At e (min (level t.k) 5) l r t
def FormOK (e : Nat) (t : T) : Prop := ∀ last least l r, keys l = toks (wrap least last (pt t)) → 1 ≤ least → least ≤ 5 → Fol least last r → At e least l r t
theorem rp_fol (p : Nat) (m : List Nat) (k : Nat) (r : List Wd) : NoT ((k, ⟨#[41]⟩, m, p) :: r) ∧ cl ((k, ⟨#[41]⟩, m, p) :: r) = 0 := ⟨⟨rfl, rfl, rfl⟩, rfl⟩
theorem keys_par {l : List Wd} {a : List It} (h : keys l = toks (par a)) : ∃ p x q, l = (4, ⟨#[40]⟩, [], p) :: (x ++ [(4, ⟨#[41]⟩, [], q)]) ∧ keys x = toks a := by
  have h1 : keys l = (4, ⟨#[40]⟩, []) :: (toks a ++ [(4, ⟨#[41]⟩, [])]) := by
    rw [h]
    simp [toks, par]
  obtain ⟨p, y, rfl, h2⟩ := keys_cons h1
  obtain ⟨x, z, rfl, hx, hz⟩ := keys_append h2
  obtain ⟨q, w, rfl, hw⟩ := keys_cons hz
  rw [keys_nil hw]
  exact ⟨p, x, q, rfl, hx⟩
theorem term_sumL0 {e : Nat} {t : T} {r : List Wd} (h : NoT r) : Rds e (.sumL t) r t r := r_sumL0 h.2.1 h.1
theorem form_of_body {e : Nat} {t : T} (h : BodyOK e t) (hl1 : 1 ≤ level t.k) (_ : binds t.k = true → level t.k = 5) : FormOK e t := by
  intro last least l r hk h1 h2 hf
  by_cases hw : level t.k < least ∨ (binds t.k = true ∧ last = false)
  · have e1 : wrap least last (pt t) = par (body t true) := if_pos hw
    rw [e1] at hk
    obtain ⟨p, x, q, rfl, hx⟩ := keys_par hk
    have hin : At e 1 x ((4, ⟨#[41]⟩, [], q) :: r) t := by
      obtain ⟨f1, f2⟩ := rp_fol q [] 4 r
      exact up (h true x _ hx (fun _ => rfl) f1 (fun _ => f2) (by rw [f2]; omega)) (Nat.le_refl _) (by omega) (by omega) (by rw [f2]; omega)
    have hpr : At e 6 ((4, ⟨#[40]⟩, [], p) :: (x ++ [(4, ⟨#[41]⟩, [], q)])) r t := by
      refine At.mk (by decide) ?_
      show Rds e .prim _ _ _
      have := r_paren (e := e) (l := (4, ⟨#[40]⟩, [], p) :: (x ++ (4, ⟨#[41]⟩, [], q) :: r)) rfl rfl rfl (hin.one t _ (r_formL0 rfl)) rfl
      simpa using this
    exact up (up65 hpr ⟨rfl, rfl, rfl⟩) h1 h2 (Nat.le_refl _) hf.2.2
  · have e1 : wrap least last (pt t) = body t last := if_neg hw
    rw [e1] at hk
    have hb : binds t.k = true → last = true := fun hb => by
      cases last
      · exact absurd (.inr ⟨hb, rfl⟩) hw
      · rfl
    have hge : least ≤ level t.k := by omega
    exact up (h last l r hk hb hf.1 hf.2.1 (by have := hf.2.2; omega)) h1 (by omega) (by omega) hf.2.2
theorem sgn_sign {k : Int} (h1 : 9 ≤ k) (h2 : k ≤ 14) (p : Nat) (y : List Wd) : sign ((4, sgn k, [], p) :: y) = k ∧ isW ⟨#[42]⟩ ((4, sgn k, [], p) :: y) = false ∧ isW ⟨#[45]⟩ ((4, sgn k, [], p) :: y) = false ∧ isW ⟨#[43]⟩ ((4, sgn k, [], p) :: y) = false ∧ isW ⟨#[100, 105, 118, 105, 100, 101, 115]⟩ ((4, sgn k, [], p) :: y) = false := by
  have : k = 9 ∨ k = 10 ∨ k = 11 ∨ k = 12 ∨ k = 13 ∨ k = 14 := by omega
  rcases this with rfl | rfl | rfl | rfl | rfl | rfl
  all_goals exact ⟨rfl, rfl, rfl, rfl, rfl⟩
theorem num_plain {m : List Nat} {p : Nat} {y : List Wd} {k : Nat} (s : ByteArray) (hs : ¬ N.okTxt s.data.toList) : isW s ((k, ⟨(N.txt (N.nv m)).toArray⟩, m, p) :: y) = false := num_ne hs
def BegT (t : T) : Prop := ∀ l r, keys l = toks (body t true) → isW ⟨#[100, 105, 118, 105, 100, 101, 115]⟩ r = false → Plain (l ++ r) ∧ isW ⟨#[116, 114, 117, 101]⟩ (l ++ r) = false ∧ isW ⟨#[102, 97, 108, 115, 101]⟩ (l ++ r) = false ∧ isW ⟨#[40]⟩ (l ++ r) = false ∧ (kd (l ++ r) == 1 && isW ⟨#[100, 105, 118, 105, 100, 101, 115]⟩ (l ++ r).tail) = false
theorem term_of_tight {e : Nat} {t : T} (hk : ¬ (t.k = 4 ∨ t.k = 5)) (h : ∀ l r, keys l = toks (body t true) → isW ⟨#[42]⟩ r = false → Rds e .oper (l ++ r) t r) : TermOK e t := by
  refine ⟨fun l r hl ht u s hu => r_sum (h l r hl ht) hu, fun l r hl ht => h l r ?_ ht⟩
  have : tight (pt t) = body t true := if_neg hk
  rw [← this]; exact hl
theorem term_of_loose {e : Nat} {t : T} (hk : t.k = 4 ∨ t.k = 5) (h : ∀ l r, keys l = toks (body t true) → isW ⟨#[42]⟩ r = false → ∀ u s, Rds e (.sumL t) r u s → Rds e .sum (l ++ r) u s) : TermOK e t := by
  refine ⟨h, fun l r hl ht => ?_⟩
  have e1 : tight (pt t) = par (body t true) := if_pos hk
  rw [e1] at hl
  obtain ⟨p, x, q, rfl, hx⟩ := keys_par hl
  have := r_opar (e := e) (l := (4, ⟨#[40]⟩, [], p) :: (x ++ (4, ⟨#[41]⟩, [], q) :: r)) rfl rfl (h x _ hx rfl t _ (r_sumL0 rfl rfl)) rfl
  simpa using this
theorem k_no {a : Int} (h : a ≠ 4 ∧ a ≠ 5) : ¬ (a = 4 ∨ a = 5) := fun e => e.elim h.1 h.2
theorem num_term {e : Nat} (m : List Nat) : TermOK e (.node 1 ⟨#[]⟩ [] false m []) ∧ BegT (.node 1 ⟨#[]⟩ [] false m []) := by
  have hb : ∀ l, keys l = toks (body (.node 1 ⟨#[]⟩ [] false m []) true) → ∃ p, l = [(1, ⟨(N.txt (N.nv m)).toArray⟩, m, p)] := fun l hl => by
    obtain ⟨p, y, rfl, h⟩ := keys_cons (show keys l = (1, ⟨(N.txt (N.nv m)).toArray⟩, m) :: [] from hl)
    rw [keys_nil h]; exact ⟨p, rfl⟩
  refine ⟨term_of_tight (k_no (a := 1) (by decide)) (fun l r hl ht => ?_), fun l r hl hd => ?_⟩
  · obtain ⟨p, rfl⟩ := hb l hl
    exact r_num (l := (1, ⟨(N.txt (N.nv m)).toArray⟩, m, p) :: r) (num_plain _ (by decide)) (num_plain _ (by decide)) rfl ht
  · obtain ⟨p, rfl⟩ := hb l hl
    exact ⟨⟨num_plain _ (by decide), num_plain _ (by decide), num_plain _ (by decide)⟩, num_plain _ (by decide), num_plain _ (by decide), num_plain _ (by decide), by
      show (true && isW ⟨#[100, 105, 118, 105, 100, 101, 115]⟩ r) = false
      rw [hd]; rfl⟩
theorem var_term {e : Nat} (s : ByteArray) (hs : nameB s = true) : TermOK e (.node 2 s [] false [] []) ∧ BegT (.node 2 s [] false [] []) := by
  have hb : ∀ l, keys l = toks (body (.node 2 s [] false [] []) true) → ∃ p, l = [(2, s, [], p)] := fun l hl => by
    obtain ⟨p, y, rfl, h⟩ := keys_cons (show keys l = (2, s, []) :: [] from hl)
    rw [keys_nil h]; exact ⟨p, rfl⟩
  refine ⟨term_of_tight (k_no (a := 2) (by decide)) (fun l r hl _ => ?_), fun l r hl _ => ?_⟩
  · obtain ⟨p, rfl⟩ := hb l hl
    exact r_var (l := (2, s, [], p) :: r) (name_ne hs (by decide)) (name_ne hs (by decide)) rfl
  · obtain ⟨p, rfl⟩ := hb l hl
    exact ⟨⟨name_ne hs (by decide), name_ne hs (by decide), name_ne hs (by decide)⟩, name_ne hs (by decide), name_ne hs (by decide), name_ne hs (by decide), rfl⟩
theorem body_neg (t : T) : body (nd 3 [t]) true = Sg ⟨#[45]⟩ :: tight (pt t) := by cases t; rfl
theorem body_add (t u : T) : body (nd 4 [t, u]) true = body t true ++ none :: Sg ⟨#[43]⟩ :: none :: tight (pt u) := by cases t; cases u; rfl
theorem body_sub (t u : T) : body (nd 5 [t, u]) true = body t true ++ none :: Sg ⟨#[45]⟩ :: none :: tight (pt u) := by cases t; cases u; rfl
theorem body_mul (m : List Nat) (t : T) : body (.node 6 ⟨#[]⟩ [] false m [t]) true = Nu m :: none :: Sg ⟨#[42]⟩ :: none :: tight (pt t) := by cases t; rfl
theorem body_cmp {k : Int} (hk : 9 ≤ k ∧ k ≤ 14) (t u : T) (last : Bool) : body (nd k [t, u]) last = body t true ++ none :: Sg (sgn k) :: none :: body u true := by
  have : k = 9 ∨ k = 10 ∨ k = 11 ∨ k = 12 ∨ k = 13 ∨ k = 14 := by omega
  cases t; cases u
  rcases this with rfl | rfl | rfl | rfl | rfl | rfl
  all_goals rfl
theorem body_div (m : List Nat) (t : T) (last : Bool) : body (.node 15 ⟨#[]⟩ [] false m [t]) last = Nu m :: none :: Kw ⟨#[100, 105, 118, 105, 100, 101, 115]⟩ :: none :: body t true := by cases t; rfl
theorem body_not (t : T) (last : Bool) : body (nd 16 [t]) last = Kw ⟨#[110, 111, 116]⟩ :: none :: wrap 5 last (pt t) := by cases t; rfl
theorem body_and (t : T) (ks : List T) (last : Bool) : body (nd 17 (t :: ks)) last = wrap 5 false (pt t) ++ rowR ⟨#[97, 110, 100]⟩ 5 last (parts ks) := by
  show row ⟨#[97, 110, 100]⟩ 5 5 last (parts (t :: ks)) = _
  rw [parts_cons]; rfl
theorem body_or (t : T) (ks : List T) (last : Bool) : body (nd 18 (t :: ks)) last = wrap 4 false (pt t) ++ rowR ⟨#[111, 114]⟩ 4 last (parts ks) := by
  show row ⟨#[111, 114]⟩ 4 4 last (parts (t :: ks)) = _
  rw [parts_cons]; rfl
theorem body_imp (t u : T) (last : Bool) : body (nd 19 [t, u]) last = wrap 3 false (pt t) ++ none :: Kw ⟨#[105, 109, 112, 108, 105, 101, 115]⟩ :: none :: wrap 2 last (pt u) := by
  show row ⟨#[105, 109, 112, 108, 105, 101, 115]⟩ 3 2 last (parts [t, u]) = _
  rw [parts_cons, parts_cons]
  simp [row, rowR, parts]
theorem body_iff (t u : T) (last : Bool) : body (nd 20 [t, u]) last = wrap 1 false (pt t) ++ none :: Kw ⟨#[105, 102, 102]⟩ :: none :: wrap 2 last (pt u) := by
  show row ⟨#[105, 102, 102]⟩ 1 2 last (parts [t, u]) = _
  rw [parts_cons, parts_cons]
  simp [row, rowR, parts]
theorem body_some (ns : List ByteArray) (t : T) (last : Bool) : body (.node 21 ⟨#[]⟩ ns false [] [t]) last = Kw ⟨#[115, 111, 109, 101]⟩ :: none :: (namesIt ns ++ Sg ⟨#[46]⟩ :: none :: wrap 1 last (pt t)) := by cases t; rfl
theorem body_all (ns : List ByteArray) (t : T) (last : Bool) : body (.node 22 ⟨#[]⟩ ns false [] [t]) last = Kw ⟨#[97, 108, 108]⟩ :: none :: (namesIt ns ++ Sg ⟨#[46]⟩ :: none :: wrap 1 last (pt t)) := by cases t; rfl
theorem toks_some (k : Nat) (s : ByteArray) (m : List Nat) (l : List It) : toks (Option.some (k, s, m) :: l) = (k, s, m) :: toks l := rfl
theorem toks_none (l : List It) : toks (none :: l) = toks l := rfl
theorem read_names : ∀ (ns : List ByteArray) (x y : List Wd), keys x = toks (namesIt ns) → kd y ≠ 2 → nms (x ++ y) = ns ∧ beh (x ++ y) = y
  | [], x, y, hx, hy => by
    rw [keys_nil hx]
    cases y with
    | nil => exact ⟨rfl, rfl⟩
    | cons w y =>
      have : (w.1 == 2) = false := by simpa [kd] using hy
      simp [nms, beh, this]
  | s :: ns, x, y, hx, hy => by
    obtain ⟨p, z, rfl, hz⟩ := keys_cons (show keys x = (2, s, []) :: toks (namesIt ns) from hx)
    obtain ⟨h1, h2⟩ := read_names ns z y hz hy
    constructor
    · show s :: nms (z ++ y) = s :: ns
      rw [h1]
    · exact h2
theorem fol_conn {w : ByteArray} {p : Nat} {y : List Wd} {n : Nat} (hw : w = ⟨#[97, 110, 100]⟩ ∧ n = 4 ∨ w = ⟨#[111, 114]⟩ ∧ n = 3 ∨ w = ⟨#[105, 109, 112, 108, 105, 101, 115]⟩ ∧ n = 2 ∨ w = ⟨#[105, 102, 102]⟩ ∧ n = 1) : NoT ((3, w, [], p) :: y) ∧ cl ((3, w, [], p) :: y) = n := by
  rcases hw with ⟨rfl, rfl⟩ | ⟨rfl, rfl⟩ | ⟨rfl, rfl⟩ | ⟨rfl, rfl⟩
  all_goals exact ⟨⟨rfl, rfl, rfl⟩, rfl⟩
theorem rowR_cons {w : ByteArray} {o : Nat} {last : Bool} {t : T} {ks : List T} {l : List Wd} (h : keys l = toks (rowR w o last (parts (t :: ks)))) : ∃ p x y, l = (3, w, [], p) :: (x ++ y) ∧ keys x = toks (wrap o (last && ks.isEmpty) (pt t)) ∧ keys y = toks (rowR w o last (parts ks)) := by
  rw [parts_cons] at h
  have h : keys l = (3, w, []) :: (toks (wrap o (last && (parts ks).isEmpty) (pt t)) ++ toks (rowR w o last (parts ks))) := by
    rw [h, ← toks_append]; rfl
  obtain ⟨p, z, rfl, h2⟩ := keys_cons h
  obtain ⟨x, y, rfl, hx, hy⟩ := keys_append h2
  refine ⟨p, x, y, rfl, ?_, hy⟩
  have : (parts ks).isEmpty = ks.isEmpty := by
    cases ks with
    | nil => rfl
    | cons a b => rw [parts_cons]; rfl
  rw [← this]; exact hx
theorem rowR_fol {w : ByteArray} {n o : Nat} (hw : w = ⟨#[97, 110, 100]⟩ ∧ n = 4 ∨ w = ⟨#[111, 114]⟩ ∧ n = 3) (ho : o = n + 1) {last : Bool} {ks : List T} {y r : List Wd} (hy : keys y = toks (rowR w o last (parts ks))) (hr : NoT r) (hl : last = true → cl r = 0) (hc : cl r < n) : Fol o (last && ks.isEmpty) (y ++ r) := by
  cases ks with
  | nil =>
    rw [keys_nil hy]
    exact ⟨hr, fun h => hl (by simpa using h), by show cl r < _; omega⟩
  | cons a b =>
    obtain ⟨p, x, z, rfl, _, _⟩ := rowR_cons hy
    obtain ⟨h1, h2⟩ := fol_conn (w := w) (p := p) (y := x ++ z ++ r) (n := n) (by rcases hw with h | h; exact .inl h; exact .inr (.inl h))
    exact ⟨h1, fun h => by simp at h, by show cl ((3, w, [], p) :: (x ++ z ++ r)) < _; rw [h2]; omega⟩
theorem read_and {e : Nat} : ∀ (ks acc : List T) (last : Bool) (l r : List Wd), (∀ k ∈ ks, FormOK e k) → keys l = toks (rowR ⟨#[97, 110, 100]⟩ 5 last (parts ks)) → NoT r → (last = true → cl r = 0) → cl r < 4 → Rds e (.andL acc) (l ++ r) (nd 17 (acc ++ ks)) r
  | [], acc, last, l, r, _, hl, _, _, hc => by
    rw [keys_nil hl, List.append_nil]
    exact r_andL0 (cl_and hc)
  | k :: ks, acc, last, l, r, hks, hl, hr, h0, hc => by
    obtain ⟨p, x, y, rfl, hx, hy⟩ := rowR_cons hl
    have h1 := (hks k List.mem_cons_self _ 5 x (y ++ r) hx (by decide) (by decide) (rowR_fol (.inl ⟨rfl, rfl⟩) rfl hy hr h0 hc)).of (by decide)
    have h2 := read_and ks (acc ++ [k]) last y r (fun a ha => hks a (List.mem_cons_of_mem _ ha)) hy hr h0 hc
    rw [List.append_assoc] at h2
    have := r_andL1 (l := (3, ⟨#[97, 110, 100]⟩, [], p) :: (x ++ (y ++ r))) rfl h1 h2
    simpa using this
theorem read_or {e : Nat} : ∀ (ks acc : List T) (last : Bool) (l r : List Wd), (∀ k ∈ ks, FormOK e k) → keys l = toks (rowR ⟨#[111, 114]⟩ 4 last (parts ks)) → NoT r → (last = true → cl r = 0) → cl r < 3 → Rds e (.orL acc) (l ++ r) (nd 18 (acc ++ ks)) r
  | [], acc, last, l, r, _, hl, _, _, hc => by
    rw [keys_nil hl, List.append_nil]
    exact r_orL0 (cl_or hc)
  | k :: ks, acc, last, l, r, hks, hl, hr, h0, hc => by
    obtain ⟨p, x, y, rfl, hx, hy⟩ := rowR_cons hl
    have h1 := (hks k List.mem_cons_self _ 4 x (y ++ r) hx (by decide) (by decide) (rowR_fol (.inr ⟨rfl, rfl⟩) rfl hy hr h0 hc)).of (by decide)
    have h2 := read_or ks (acc ++ [k]) last y r (fun a ha => hks a (List.mem_cons_of_mem _ ha)) hy hr h0 hc
    rw [List.append_assoc] at h2
    have := r_orL1 (l := (3, ⟨#[111, 114]⟩, [], p) :: (x ++ (y ++ r))) rfl h1 h2
    simpa using this
theorem read_all {e : Nat} {b : Bool} {t : T} (h : Wf b t) : (b = false → TermOK e t ∧ BegT t) ∧ (b = true → FormOK e t) := by
  induction h with
  | num m hm => exact ⟨fun _ => num_term m, (fun h => by cases h)⟩
  | var s hs => exact ⟨fun _ => var_term s hs, (fun h => by cases h)⟩
  | neg t ht ih =>
    have ih := (ih.1 rfl).1
    have hb : ∀ l, keys l = toks (body (nd 3 [t]) true) → ∃ p x, l = (4, ⟨#[45]⟩, [], p) :: x ∧ keys x = toks (tight (pt t)) := fun l hl => by
      rw [body_neg, toks_some] at hl
      exact keys_cons hl
    refine ⟨fun _ => ⟨term_of_tight (k_no (a := 3) (by decide)) (fun l r hl hr => ?_), fun l r hl _ => ?_⟩, (fun h => by cases h)⟩
    · obtain ⟨p, x, rfl, hx⟩ := hb l hl
      exact r_neg (l := (4, ⟨#[45]⟩, [], p) :: (x ++ r)) rfl (ih.2 x r hx hr)
    · obtain ⟨p, x, rfl, hx⟩ := hb l hl
      exact ⟨⟨rfl, rfl, rfl⟩, rfl, rfl, rfl, rfl⟩
  | add t u ht hu iht ihu =>
    have iht := iht.1 rfl
    have ihu := (ihu.1 rfl).1
    have hb : ∀ l, keys l = toks (body (nd 4 [t, u]) true) → ∃ x p y, l = x ++ (4, ⟨#[43]⟩, [], p) :: y ∧ keys x = toks (body t true) ∧ keys y = toks (tight (pt u)) := fun l hl => by
      rw [body_add, toks_append] at hl
      obtain ⟨x, z, rfl, hx, hz⟩ := keys_append hl
      obtain ⟨p, y, rfl, hy⟩ := keys_cons (show keys z = (4, ⟨#[43]⟩, []) :: toks (tight (pt u)) from hz)
      exact ⟨x, p, y, rfl, hx, hy⟩
    refine ⟨fun _ => ⟨term_of_loose (.inl rfl) (fun l r hl hr v s hv => ?_), fun l r hl _ => ?_⟩, (fun h => by cases h)⟩
    · obtain ⟨x, p, y, rfl, hx, hy⟩ := hb l hl
      have := iht.1.1 x ((4, ⟨#[43]⟩, [], p) :: (y ++ r)) hx rfl v s (r_sumL2 rfl rfl (ihu.2 y r hy hr) hv)
      simpa using this
    · obtain ⟨x, p, y, rfl, hx, hy⟩ := hb l hl
      have := iht.2 x ((4, ⟨#[43]⟩, [], p) :: (y ++ r)) hx rfl
      simpa using this
  | sub t u ht hu iht ihu =>
    have iht := iht.1 rfl
    have ihu := (ihu.1 rfl).1
    have hb : ∀ l, keys l = toks (body (nd 5 [t, u]) true) → ∃ x p y, l = x ++ (4, ⟨#[45]⟩, [], p) :: y ∧ keys x = toks (body t true) ∧ keys y = toks (tight (pt u)) := fun l hl => by
      rw [body_sub, toks_append] at hl
      obtain ⟨x, z, rfl, hx, hz⟩ := keys_append hl
      obtain ⟨p, y, rfl, hy⟩ := keys_cons (show keys z = (4, ⟨#[45]⟩, []) :: toks (tight (pt u)) from hz)
      exact ⟨x, p, y, rfl, hx, hy⟩
    refine ⟨fun _ => ⟨term_of_loose (.inr rfl) (fun l r hl hr v s hv => ?_), fun l r hl _ => ?_⟩, (fun h => by cases h)⟩
    · obtain ⟨x, p, y, rfl, hx, hy⟩ := hb l hl
      have := iht.1.1 x ((4, ⟨#[45]⟩, [], p) :: (y ++ r)) hx rfl v s (r_sumL1 rfl (ihu.2 y r hy hr) hv)
      simpa using this
    · obtain ⟨x, p, y, rfl, hx, hy⟩ := hb l hl
      have := iht.2 x ((4, ⟨#[45]⟩, [], p) :: (y ++ r)) hx rfl
      simpa using this
  | mul m hm t ht ih =>
    have ih := (ih.1 rfl).1
    have hb : ∀ l, keys l = toks (body (.node 6 ⟨#[]⟩ [] false m [t]) true) → ∃ p q x, l = (1, ⟨(N.txt (N.nv m)).toArray⟩, m, p) :: (4, ⟨#[42]⟩, [], q) :: x ∧ keys x = toks (tight (pt t)) := fun l hl => by
      rw [body_mul, toks_some] at hl
      obtain ⟨p, z, rfl, hz⟩ := keys_cons hl
      obtain ⟨q, x, rfl, hx⟩ := keys_cons (show keys z = (4, ⟨#[42]⟩, []) :: toks (tight (pt t)) from hz)
      exact ⟨p, q, x, rfl, hx⟩
    refine ⟨fun _ => ⟨term_of_tight (k_no (a := 6) (by decide)) (fun l r hl hr => ?_), fun l r hl _ => ?_⟩, (fun h => by cases h)⟩
    · obtain ⟨p, q, x, rfl, hx⟩ := hb l hl
      exact r_mul (l := (1, ⟨(N.txt (N.nv m)).toArray⟩, m, p) :: (4, ⟨#[42]⟩, [], q) :: (x ++ r)) (num_plain _ (by decide)) (num_plain _ (by decide)) rfl rfl (ih.2 x r hx hr)
    · obtain ⟨p, q, x, rfl, hx⟩ := hb l hl
      exact ⟨⟨num_plain _ (by decide), num_plain _ (by decide), num_plain _ (by decide)⟩, num_plain _ (by decide), num_plain _ (by decide), num_plain _ (by decide), rfl⟩
  | tt =>
    refine ⟨(fun h => by cases h), fun _ => form_of_body (fun last l r hl _ _ _ _ => ?_) (show 1 ≤ level 7 by decide) (fun h => absurd (show binds 7 = true from h) (by decide))⟩
    obtain ⟨p, y, rfl, hy⟩ := keys_cons (show keys l = (3, ⟨#[116, 114, 117, 101]⟩, []) :: [] from hl)
    rw [keys_nil hy]
    exact up65 (At.mk (by decide) (r_true (l := (3, ⟨#[116, 114, 117, 101]⟩, [], p) :: r) rfl)) ⟨rfl, rfl, rfl⟩
  | ff =>
    refine ⟨(fun h => by cases h), fun _ => form_of_body (fun last l r hl _ _ _ _ => ?_) (show 1 ≤ level 8 by decide) (fun h => absurd (show binds 8 = true from h) (by decide))⟩
    obtain ⟨p, y, rfl, hy⟩ := keys_cons (show keys l = (3, ⟨#[102, 97, 108, 115, 101]⟩, []) :: [] from hl)
    rw [keys_nil hy]
    exact up65 (At.mk (by decide) (r_false (l := (3, ⟨#[102, 97, 108, 115, 101]⟩, [], p) :: r) rfl rfl)) ⟨rfl, rfl, rfl⟩
  | cmp k hk t u ht hu iht ihu =>
    have iht := iht.1 rfl
    have ihu := (ihu.1 rfl).1
    have hlv : level (nd k [t, u]).k = 6 := by
      show level k = 6
      unfold level
      rw [if_neg (by omega), if_neg (by omega), if_neg (by omega), if_neg (by omega), if_neg (by omega)]
    have hbd : binds (nd k [t, u]).k = false := by
      show binds k = false
      unfold binds
      simp; omega
    refine ⟨(fun h => by cases h), fun _ => form_of_body (fun last l r hl _ hr _ _ => ?_) (by rw [hlv]; decide) (fun h => by rw [hbd] at h; cases h)⟩
    rw [body_cmp hk, toks_append] at hl
    obtain ⟨x, z, rfl, hx, hz⟩ := keys_append hl
    obtain ⟨p, y, rfl, hy⟩ := keys_cons (show keys z = (4, sgn k, []) :: toks (body u true) from hz)
    obtain ⟨s1, s2, s3, s4, s5⟩ := sgn_sign hk.1 hk.2 p (y ++ r)
    obtain ⟨b1, b2, b3, b4, b5⟩ := iht.2 x _ hx s5
    have h1 := iht.1.1 x _ hx s2 t _ (r_sumL0 s3 s4)
    have h2 := ihu.1 y r hy hr.2.2 u r (term_sumL0 hr)
    rw [hlv]
    refine up65 (At.mk (by decide) ?_) (by simpa using b1)
    have h3 := r_cmp b2 b3 b4 b5 h1 (by rw [s1]; omega) h2
    rw [s1] at h3
    show Rds e .prim _ _ _
    simpa using h3
  | div m hm h0 t ht ih =>
    have ih := ih.1 rfl
    refine ⟨(fun h => by cases h), fun _ => form_of_body (fun last l r hl _ hr _ _ => ?_) (show 1 ≤ level 15 by decide) (fun h => absurd (show binds 15 = true from h) (by decide))⟩
    rw [body_div, toks_some] at hl
    obtain ⟨p, z, rfl, hz⟩ := keys_cons hl
    obtain ⟨q, x, rfl, hx⟩ := keys_cons (show keys z = (3, ⟨#[100, 105, 118, 105, 100, 101, 115]⟩, []) :: toks (body t true) from hz)
    refine up65 (At.mk (by decide) ?_) ⟨num_plain _ (by decide), num_plain _ (by decide), num_plain _ (by decide)⟩
    exact r_div (l := (1, ⟨(N.txt (N.nv m)).toArray⟩, m, p) :: (3, ⟨#[100, 105, 118, 105, 100, 101, 115]⟩, [], q) :: (x ++ r)) (num_plain _ (by decide)) (num_plain _ (by decide)) (num_plain _ (by decide)) rfl rfl (by
      show m.isEmpty = false
      cases m
      · exact absurd rfl h0
      · rfl) (ih.1.1 x r hx hr.2.2 t r (term_sumL0 hr))
  | not t ht ih =>
    have ih := ih.2 rfl
    refine ⟨(fun h => by cases h), fun _ => form_of_body (fun last l r hl _ hr h0 hc => ?_) (show 1 ≤ level 16 by decide) (fun h => absurd (show binds 16 = true from h) (by decide))⟩
    rw [body_not, toks_some] at hl
    obtain ⟨p, x, rfl, hx⟩ := keys_cons hl
    have h1 := (ih last 5 x r hx (by decide) (by decide) ⟨hr, h0, hc⟩).of (by decide)
    exact At.mk (show min (level 16) 5 ≠ 1 by decide) (r_not (l := (3, ⟨#[110, 111, 116]⟩, [], p) :: (x ++ r)) rfl h1)
  | and t u ks ht hu hks iht ihu ihks =>
    refine ⟨(fun h => by cases h), fun _ => form_of_body (fun last l r hl _ hr h0 hc => ?_) (show 1 ≤ level 17 by decide) (fun h => absurd (show binds 17 = true from h) (by decide))⟩
    have hc : cl r < 4 := hc
    rw [body_and, toks_append] at hl
    obtain ⟨x, y, rfl, hx, hy⟩ := keys_append hl
    have hall : ∀ k ∈ u :: ks, FormOK e k := fun k hk => by
      rcases List.mem_cons.1 hk with rfl | hk
      · exact ihu.2 rfl
      · exact (ihks k hk).2 rfl
    have hf := rowR_fol (.inl ⟨rfl, rfl⟩) rfl hy hr h0 hc
    obtain ⟨p, x2, y2, rfl, hx2, hy2⟩ := rowR_cons hy
    have h1 := ((iht.2 rfl) false 5 x (((3, ⟨#[97, 110, 100]⟩, [], p) :: (x2 ++ y2)) ++ r) hx (by decide) (by decide) ⟨hf.1, (fun h => by cases h), hf.2.2⟩).of (by decide)
    have h2 := read_and (u :: ks) [t] last _ r hall hy hr h0 hc
    refine At.mk (show min (level 17) 5 ≠ 1 by decide) ?_
    have := r_anded1 h1 rfl h2
    show Rds e .anded _ _ _
    simpa using this
  | or t u ks ht hu hks iht ihu ihks =>
    refine ⟨(fun h => by cases h), fun _ => form_of_body (fun last l r hl _ hr h0 hc => ?_) (show 1 ≤ level 18 by decide) (fun h => absurd (show binds 18 = true from h) (by decide))⟩
    have hc : cl r < 3 := hc
    rw [body_or, toks_append] at hl
    obtain ⟨x, y, rfl, hx, hy⟩ := keys_append hl
    have hall : ∀ k ∈ u :: ks, FormOK e k := fun k hk => by
      rcases List.mem_cons.1 hk with rfl | hk
      · exact ihu.2 rfl
      · exact (ihks k hk).2 rfl
    have hf := rowR_fol (.inr ⟨rfl, rfl⟩) rfl hy hr h0 hc
    obtain ⟨p, x2, y2, rfl, hx2, hy2⟩ := rowR_cons hy
    have h1 := ((iht.2 rfl) false 4 x (((3, ⟨#[111, 114]⟩, [], p) :: (x2 ++ y2)) ++ r) hx (by decide) (by decide) ⟨hf.1, (fun h => by cases h), hf.2.2⟩).of (by decide)
    have h2 := read_or (u :: ks) [t] last _ r hall hy hr h0 hc
    refine At.mk (show min (level 18) 5 ≠ 1 by decide) ?_
    have := r_ored1 h1 rfl h2
    show Rds e .ored _ _ _
    simpa using this
  | imp t u ht hu iht ihu =>
    refine ⟨(fun h => by cases h), fun _ => form_of_body (fun last l r hl _ hr h0 hc => ?_) (show 1 ≤ level 19 by decide) (fun h => absurd (show binds 19 = true from h) (by decide))⟩
    have hc : cl r < 2 := hc
    rw [body_imp, toks_append] at hl
    obtain ⟨x, z, rfl, hx, hz⟩ := keys_append hl
    obtain ⟨p, y, rfl, hy⟩ := keys_cons (show keys z = (3, ⟨#[105, 109, 112, 108, 105, 101, 115]⟩, []) :: toks (wrap 2 last (pt u)) from hz)
    have h1 := ((iht.2 rfl) false 3 x ((3, ⟨#[105, 109, 112, 108, 105, 101, 115]⟩, [], p) :: (y ++ r)) hx (by decide) (by decide) ⟨⟨rfl, rfl, rfl⟩, (fun h => by cases h), show (2 : Nat) < max 3 2 by decide⟩).of (by decide)
    have h2 := ((ihu.2 rfl) last 2 y r hy (by decide) (by decide) ⟨hr, h0, hc⟩).of (by decide)
    refine At.mk (show min (level 19) 5 ≠ 1 by decide) ?_
    have := r_impl1 h1 rfl h2
    show Rds e .impl _ _ _
    simpa using this
  | iff t u ht hu iht ihu =>
    refine ⟨(fun h => by cases h), fun _ => form_of_body (fun last l r hl _ hr h0 hc => ?_) (show 1 ≤ level 20 by decide) (fun h => absurd (show binds 20 = true from h) (by decide))⟩
    have hc : cl r < 2 := hc
    rw [body_iff, toks_append] at hl
    obtain ⟨x, z, rfl, hx, hz⟩ := keys_append hl
    obtain ⟨p, y, rfl, hy⟩ := keys_cons (show keys z = (3, ⟨#[105, 102, 102]⟩, []) :: toks (wrap 2 last (pt u)) from hz)
    have h1 := ((iht.2 rfl) false 1 x ((3, ⟨#[105, 102, 102]⟩, [], p) :: (y ++ r)) hx (by decide) (by decide) ⟨⟨rfl, rfl, rfl⟩, (fun h => by cases h), show (1 : Nat) < max 1 2 by decide⟩).one
    have h2 := ((ihu.2 rfl) last 2 y r hy (by decide) (by decide) ⟨hr, h0, hc⟩).of (by decide)
    refine At.mk1 fun v s hv => ?_
    have := h1 v s (r_formL1 rfl h2 hv)
    simpa using this
  | some s ns hs hns t ht ih =>
    refine ⟨(fun h => by cases h), fun _ => form_of_body (fun last l r hl hb hr h0 hc => ?_) (show 1 ≤ level 21 by decide) (fun _ => rfl)⟩
    obtain rfl : last = true := hb rfl
    rw [body_some, toks_some, toks_none, toks_append] at hl
    obtain ⟨p, z, rfl, hz⟩ := keys_cons hl
    obtain ⟨x, z, rfl, hx, hz⟩ := keys_append hz
    obtain ⟨q, y, rfl, hy⟩ := keys_cons (show keys z = (4, ⟨#[46]⟩, []) :: toks (wrap 1 true (pt t)) from hz)
    obtain ⟨n1, n2⟩ := read_names (s :: ns) x ((4, ⟨#[46]⟩, [], q) :: (y ++ r)) hx (by show (4 : Nat) ≠ 2; decide)
    have h1 := ((ih.2 rfl) true 1 y r hy (by decide) (by decide) ⟨hr, h0, by have := h0 rfl; omega⟩).one t r (r_formL0 (cl_iff (by have := h0 rfl; omega)))
    have h2 := r_some (e := e) (l := (3, ⟨#[115, 111, 109, 101]⟩, [], p) :: (x ++ (4, ⟨#[46]⟩, [], q) :: (y ++ r))) (u := t) (r := r) rfl rfl (by
      show (nms (x ++ (4, ⟨#[46]⟩, [], q) :: (y ++ r))).isEmpty = false
      rw [n1]; rfl) (by
      show isW _ (beh (x ++ (4, ⟨#[46]⟩, [], q) :: (y ++ r))) = true
      rw [n2]; rfl) (by
      show Rds e .form (beh (x ++ (4, ⟨#[46]⟩, [], q) :: (y ++ r))).tail t r
      rw [n2]; exact h1)
    rw [show nms ((3, ⟨#[115, 111, 109, 101]⟩, [], p) :: (x ++ (4, ⟨#[46]⟩, [], q) :: (y ++ r)) : List Wd).tail = s :: ns from n1] at h2
    refine At.mk (show min (level 21) 5 ≠ 1 by decide) ?_
    show Rds e .notted _ _ _
    simpa using h2
  | all s ns hs hns t ht ih =>
    refine ⟨(fun h => by cases h), fun _ => form_of_body (fun last l r hl hb hr h0 hc => ?_) (show 1 ≤ level 22 by decide) (fun _ => rfl)⟩
    obtain rfl : last = true := hb rfl
    rw [body_all, toks_some, toks_none, toks_append] at hl
    obtain ⟨p, z, rfl, hz⟩ := keys_cons hl
    obtain ⟨x, z, rfl, hx, hz⟩ := keys_append hz
    obtain ⟨q, y, rfl, hy⟩ := keys_cons (show keys z = (4, ⟨#[46]⟩, []) :: toks (wrap 1 true (pt t)) from hz)
    obtain ⟨n1, n2⟩ := read_names (s :: ns) x ((4, ⟨#[46]⟩, [], q) :: (y ++ r)) hx (by show (4 : Nat) ≠ 2; decide)
    have h1 := ((ih.2 rfl) true 1 y r hy (by decide) (by decide) ⟨hr, h0, by have := h0 rfl; omega⟩).one t r (r_formL0 (cl_iff (by have := h0 rfl; omega)))
    have h2 := r_all (e := e) (l := (3, ⟨#[97, 108, 108]⟩, [], p) :: (x ++ (4, ⟨#[46]⟩, [], q) :: (y ++ r))) (u := t) (r := r) rfl rfl rfl (by
      show (nms (x ++ (4, ⟨#[46]⟩, [], q) :: (y ++ r))).isEmpty = false
      rw [n1]; rfl) (by
      show isW _ (beh (x ++ (4, ⟨#[46]⟩, [], q) :: (y ++ r))) = true
      rw [n2]; rfl) (by
      show Rds e .form (beh (x ++ (4, ⟨#[46]⟩, [], q) :: (y ++ r))).tail t r
      rw [n2]; exact h1)
    rw [show nms ((3, ⟨#[97, 108, 108]⟩, [], p) :: (x ++ (4, ⟨#[46]⟩, [], q) :: (y ++ r)) : List Wd).tail = s :: ns from n1] at h2
    refine At.mk (show min (level 22) 5 ≠ 1 by decide) ?_
    show Rds e .notted _ _ _
    simpa using h2
theorem read_back (e : Nat) {t : T} (h : Wf true t) {l : List Wd} (hl : keys l = toks (wrap 1 true (pt t))) : read e l = .ok t [] := by
  obtain ⟨f, hf⟩ := ((read_all h).2 rfl true 1 l [] hl (by decide) (by decide) ⟨⟨rfl, rfl, rfl⟩, fun _ => rfl, by decide⟩).one t [] (r_formL0 (e := e) rfl)
  rw [List.append_nil] at hf
  have h2 := G_total e (fuel l) .form l (by simp only [fuel, NT.rank]; omega)
  have h3 := G_one h2 (show G e f .form l ≠ .out by rw [hf]; intro h; cases h)
  unfold read
  rw [h3, hf]
  rfl
end P
end Go.Proofs.YthiadenmljbdaaaGreatDoor
end
