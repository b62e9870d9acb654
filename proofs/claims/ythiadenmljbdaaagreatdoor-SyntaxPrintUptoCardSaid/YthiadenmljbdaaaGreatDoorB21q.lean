/-
  q: the parts PRend PRend2 PLen.
-/
import Derived.Test.YthiadenmljbdaaaGreatDoorB13q
import Derived.Test.YthiadenmljbdaaaGreatDoorB15q
namespace Go.Proofs.YthiadenmljbdaaaGreatDoor
section
namespace P
def itB : It → List UInt8
 | Option.none => [32]
 | Option.some x => x.2.1.data.toList
def bytes (l : List It) : List UInt8 := l.flatMap itB
theorem bytes_append (a b : List It) : bytes (a ++ b) = bytes a ++ bytes b := by simp [bytes]
theorem bytes_cons (a : It) (b : List It) : bytes (a :: b) = itB a ++ bytes b := by simp [bytes]
def Stands (x : Nat × ByteArray × List Nat) (r : List UInt8) : Prop :=
 X.one (x.2.1.data.toList ++ r) = (0, x.1, x.2.1.data.toList.length) ∧ X.blank ((x.2.1.data.toList ++ r).getD 0 0) = false ∧ x.2.2 = (if x.1 = 1 then N.ofN (N.val x.2.1.data.toList) else [])
def Chn : List It → List UInt8 → Prop
 | [], _ => True
 | Option.none :: l, r => Chn l r
 | Option.some x :: l, r => Stands x (bytes l ++ r) ∧ Chn l r
theorem Chn.app : ∀ {a b : List It} {r : List UInt8}, Chn a (bytes b ++ r) → Chn b r → Chn (a ++ b) r
 | [], _, _, _, h => h
 | Option.none :: l, _, _, h, k => Chn.app (a := l) h k
 | Option.some x :: l, b, r, h, k => ⟨by have := h.1; rw [← List.append_assoc, ← bytes_append] at this; exact this, Chn.app (a := l) h.2 k⟩
def Nr (r : List UInt8) : Prop := r = [] ∨ X.rowc (r.getD 0 0) = false
theorem Nr.sp (r : List UInt8) : Nr (32 :: r) := .inr rfl
end P
end
section
namespace P
def said (t : T) : List UInt8 := bytes (wrap 1 true (pt t))
end P
end
section
namespace P
theorem N.txt_long {x : Nat} : ∀ {K : Nat}, x < 10 ^ K → (N.txt x).length ≤ K + 1 := by
 induction x using Nat.strongRecOn with
 | ind x ih =>
  intro K h
  by_cases hx : x < 10
  · rw [N.txt_small hx]; simp
  · rw [N.txt_big (by omega), List.length_append]
    cases K with
    | zero => simp at h; omega
    | succ K =>
     have := ih (x / 10) (by omega) (K := K) (by rw [Nat.pow_succ] at h; exact Nat.div_lt_of_lt_mul (by omega))
     simp; omega
theorem num_len {m : List Nat} (h : NOK m) : (N.txt (N.nv m)).length ≤ 10 * m.length + 1 := by
 refine N.txt_long (K := 10 * m.length) (Nat.lt_of_lt_of_le (N.nv_lt h.1) ?_)
 rw [Nat.pow_mul]
 exact Nat.pow_le_pow_left (by decide) _
theorem bl_app (a b : List It) : (bytes (a ++ b)).length = (bytes a).length + (bytes b).length := by rw [bytes_append, List.length_append]
theorem bl_cons (a : It) (b : List It) : (bytes (a :: b)).length = (itB a).length + (bytes b).length := by rw [bytes_cons, List.length_append]
theorem bl_nil : (bytes []).length = 0 := rfl
theorem bl_none : (itB none).length = 1 := rfl
theorem bl_par (l : List It) : (bytes (par l)).length = (bytes l).length + 2 := by
 unfold par
 rw [bl_cons, bl_app, bl_cons, bl_nil]
 show 1 + ((bytes l).length + (1 + 0)) = _
 omega
theorem bl_tight {t : T} {n : Nat} (h : (bytes (body t true)).length ≤ n) : (bytes (tight (pt t))).length ≤ n + 2 := by
 unfold tight
 split
 · rw [bl_par]; exact Nat.add_le_add_right h 2
 · exact Nat.le_trans h (by omega)
theorem bl_wrap {t : T} {n : Nat} (h : ∀ last, (bytes (body t last)).length ≤ n) (k : Nat) (last : Bool) : (bytes (wrap k last (pt t))).length ≤ n + 2 := by
 unfold wrap
 split
 · rw [bl_par]; exact Nat.add_le_add_right (h true) 2
 · exact Nat.le_trans (h last) (by omega)
theorem bl_names : ∀ ns : List ByteArray, (bytes (namesIt ns)).length = sbulk ns
 | [] => rfl
 | s :: ns => by
  show (bytes (Nm s :: none :: namesIt ns)).length = _
  rw [bl_cons, bl_cons, bl_none, bl_names ns]
  show s.data.toList.length + (1 + sbulk ns) = _
  have e : sbulk (s :: ns) = s.size + 1 + sbulk ns := by simp [sbulk]
  have e2 : s.data.toList.length = s.size := Array.length_toList
  omega
theorem bulk_no (k : Int) (ns : List ByteArray) (ng : Bool) (m : List Nat) (ks : List T) : T.bulk (.node k ⟨#[]⟩ ns ng m ks) = sbulk ns + m.length + T.bulks ks + 1 := by
 rw [T.bulk]
 have : (⟨#[]⟩ : ByteArray).size = 0 := rfl
 omega
theorem bulks_one (t : T) : T.bulks [t] = t.bulk := by rw [T.bulks, T.bulks]; rfl
theorem bulks_cons (t : T) (r : List T) : T.bulks (t :: r) = t.bulk + T.bulks r := by rw [T.bulks]
theorem bl_row {w : ByteArray} (hw : w.size ≤ 8) {o : Nat} {last : Bool} : ∀ {ks : List T}, (∀ k ∈ ks, ∀ last, (bytes (body k last)).length + 12 ≤ 32 * k.bulk) → (bytes (rowR w o last (parts ks))).length ≤ 32 * T.bulks ks
 | [], _ => by rw [T.bulks]; exact Nat.zero_le _
 | k :: ks, h => by
  rw [parts_cons]
  have ih := bl_row (w := w) hw (o := o) (last := last) (ks := ks) (fun a ha => h a (List.mem_cons_of_mem _ ha))
  have h0 := h k List.mem_cons_self
  have h1 := bl_wrap (t := k) (n := 32 * k.bulk - 12) (fun l => by have := h0 l; omega) o (last && (parts ks).isEmpty)
  have h2 := h0 true
  rw [bulks_cons]
  show (bytes (none :: Kw w :: none :: (wrap o (last && (parts ks).isEmpty) (pt k) ++ rowR w o last (parts ks)))).length ≤ _
  rw [bl_cons, bl_cons, bl_cons, bl_app, bl_none]
  have e : (itB (Kw w)).length = w.size := Array.length_toList
  omega
theorem bl_all {b : Bool} {t : T} (h : Wf b t) : (b = false → (bytes (body t true)).length + 12 ≤ 32 * t.bulk) ∧ (b = true → ∀ last, (bytes (body t last)).length + 12 ≤ 32 * t.bulk) := by
 have nu : ∀ m, NOK m → (itB (Nu m)).length ≤ 10 * m.length + 1 := fun m hm => num_len hm
 have w1 : ∀ s : ByteArray, ∀ k m, (itB (Option.some (k, s, m))).length = s.size := fun s _ _ => Array.length_toList
 have z : sbulk [] = 0 := rfl
 have z2 : T.bulks [] = 0 := by rw [T.bulks]
 have z3 : ([] : List Nat).length = 0 := rfl
 induction h with
 | num m hm =>
  refine ⟨fun _ => ?_, (fun h => by cases h)⟩
  show (bytes [Nu m]).length + 12 ≤ _
  have := nu m hm
  rw [bl_cons, bl_nil, bulk_no]
  omega
 | var s hs =>
  refine ⟨fun _ => ?_, (fun h => by cases h)⟩
  show (bytes [Nm s]).length + 12 ≤ _
  rw [bl_cons, bl_nil, w1, T.bulk]
  omega
 | neg t ht ih =>
  refine ⟨fun _ => ?_, (fun h => by cases h)⟩
  have h1 := ih.1 rfl
  have h2 := bl_tight (t := t) (n := 32 * t.bulk - 12) (by omega)
  rw [body_neg, bl_cons, w1, nd, bulk_no, bulks_one]
  have e : (⟨#[45]⟩ : ByteArray).size = 1 := rfl
  omega
 | add t u ht hu iht ihu =>
  refine ⟨fun _ => ?_, (fun h => by cases h)⟩
  have h0 := iht.1 rfl
  have h1 := ihu.1 rfl
  have h2 := bl_tight (t := u) (n := 32 * u.bulk - 12) (by omega)
  rw [body_add, bl_app, bl_cons, bl_cons, bl_cons, bl_none, w1, nd, bulk_no, bulks_cons, bulks_one]
  have e : (⟨#[43]⟩ : ByteArray).size = 1 := rfl
  omega
 | sub t u ht hu iht ihu =>
  refine ⟨fun _ => ?_, (fun h => by cases h)⟩
  have h0 := iht.1 rfl
  have h1 := ihu.1 rfl
  have h2 := bl_tight (t := u) (n := 32 * u.bulk - 12) (by omega)
  rw [body_sub, bl_app, bl_cons, bl_cons, bl_cons, bl_none, w1, nd, bulk_no, bulks_cons, bulks_one]
  have e : (⟨#[45]⟩ : ByteArray).size = 1 := rfl
  omega
 | mul m hm t ht ih =>
  refine ⟨fun _ => ?_, (fun h => by cases h)⟩
  have h0 := ih.1 rfl
  have h1 := nu m hm
  have h2 := bl_tight (t := t) (n := 32 * t.bulk - 12) (by omega)
  rw [body_mul, bl_cons, bl_cons, bl_cons, bl_cons, bl_none, w1 ⟨#[42]⟩, bulk_no, bulks_one]
  have e : (⟨#[42]⟩ : ByteArray).size = 1 := rfl
  omega
 | tt =>
  refine ⟨(fun h => by cases h), fun _ last => ?_⟩
  show 4 + 12 ≤ _
  rw [nd, bulk_no]
  omega
 | ff =>
  refine ⟨(fun h => by cases h), fun _ last => ?_⟩
  show 5 + 12 ≤ _
  rw [nd, bulk_no]
  omega
 | cmp k hk t u ht hu iht ihu =>
  refine ⟨(fun h => by cases h), fun _ last => ?_⟩
  have h0 := iht.1 rfl
  have h1 := ihu.1 rfl
  rw [body_cmp hk, bl_app, bl_cons, bl_cons, bl_cons, bl_none, w1, nd, bulk_no, bulks_cons, bulks_one]
  have e : (sgn k).size ≤ 2 := by
   unfold sgn
   split
   · decide
   · split
     · decide
     · split
       · decide
       · split
         · decide
         · split <;> decide
  omega
 | div m hm h0 t ht ih =>
  refine ⟨(fun h => by cases h), fun _ last => ?_⟩
  have h0 := ih.1 rfl
  have h1 := nu m hm
  rw [body_div, bl_cons, bl_cons, bl_cons, bl_cons, bl_none, w1 ⟨#[100, 105, 118, 105, 100, 101, 115]⟩, bulk_no, bulks_one]
  have e : (⟨#[100, 105, 118, 105, 100, 101, 115]⟩ : ByteArray).size = 7 := rfl
  omega
 | not t ht ih =>
  refine ⟨(fun h => by cases h), fun _ last => ?_⟩
  have h0 := ih.2 rfl
  have h1 := h0 true
  have h2 := bl_wrap (t := t) (n := 32 * t.bulk - 12) (fun l => by have := h0 l; omega) 5 last
  rw [body_not, bl_cons, bl_cons, bl_none, w1, nd, bulk_no, bulks_one]
  have e : (⟨#[110, 111, 116]⟩ : ByteArray).size = 3 := rfl
  omega
 | and t u ks ht hu hks iht ihu ihks =>
  refine ⟨(fun h => by cases h), fun _ last => ?_⟩
  have h0 := iht.2 rfl
  have h1 := h0 true
  have h2 := bl_wrap (t := t) (n := 32 * t.bulk - 12) (fun l => by have := h0 l; omega) 5 false
  have h3 := bl_row (w := ⟨#[97, 110, 100]⟩) (by decide) (o := 5) (last := last) (ks := u :: ks) (fun a ha => by
   rcases List.mem_cons.1 ha with rfl | ha
   · exact ihu.2 rfl
   · exact (ihks a ha).2 rfl)
  rw [body_and, bl_app, nd, bulk_no, bulks_cons t]
  omega
 | or t u ks ht hu hks iht ihu ihks =>
  refine ⟨(fun h => by cases h), fun _ last => ?_⟩
  have h0 := iht.2 rfl
  have h1 := h0 true
  have h2 := bl_wrap (t := t) (n := 32 * t.bulk - 12) (fun l => by have := h0 l; omega) 4 false
  have h3 := bl_row (w := ⟨#[111, 114]⟩) (by decide) (o := 4) (last := last) (ks := u :: ks) (fun a ha => by
   rcases List.mem_cons.1 ha with rfl | ha
   · exact ihu.2 rfl
   · exact (ihks a ha).2 rfl)
  rw [body_or, bl_app, nd, bulk_no, bulks_cons t]
  omega
 | imp t u ht hu iht ihu =>
  refine ⟨(fun h => by cases h), fun _ last => ?_⟩
  have h0 := iht.2 rfl
  have h1 := ihu.2 rfl
  have h4 := h0 true
  have h5 := h1 true
  have h2 := bl_wrap (t := t) (n := 32 * t.bulk - 12) (fun l => by have := h0 l; omega) 3 false
  have h3 := bl_wrap (t := u) (n := 32 * u.bulk - 12) (fun l => by have := h1 l; omega) 2 last
  rw [body_imp, bl_app, bl_cons, bl_cons, bl_cons, bl_none, w1, nd, bulk_no, bulks_cons, bulks_one]
  have e : (⟨#[105, 109, 112, 108, 105, 101, 115]⟩ : ByteArray).size = 7 := rfl
  omega
 | iff t u ht hu iht ihu =>
  refine ⟨(fun h => by cases h), fun _ last => ?_⟩
  have h0 := iht.2 rfl
  have h1 := ihu.2 rfl
  have h4 := h0 true
  have h5 := h1 true
  have h2 := bl_wrap (t := t) (n := 32 * t.bulk - 12) (fun l => by have := h0 l; omega) 1 false
  have h3 := bl_wrap (t := u) (n := 32 * u.bulk - 12) (fun l => by have := h1 l; omega) 2 last
  rw [body_iff, bl_app, bl_cons, bl_cons, bl_cons, bl_none, w1, nd, bulk_no, bulks_cons, bulks_one]
  have e : (⟨#[105, 102, 102]⟩ : ByteArray).size = 3 := rfl
  omega
 | some s ns hs hns t ht ih =>
  refine ⟨(fun h => by cases h), fun _ last => ?_⟩
  have h0 := ih.2 rfl
  have h1 := h0 true
  have h2 := bl_wrap (t := t) (n := 32 * t.bulk - 12) (fun l => by have := h0 l; omega) 1 last
  rw [body_some, bl_cons, bl_cons, bl_app, bl_cons, bl_cons, bl_none, bl_names, w1, w1, bulk_no, bulks_one]
  have e : (⟨#[115, 111, 109, 101]⟩ : ByteArray).size = 4 := rfl
  have e2 : (⟨#[46]⟩ : ByteArray).size = 1 := rfl
  omega
 | all s ns hs hns t ht ih =>
  refine ⟨(fun h => by cases h), fun _ last => ?_⟩
  have h0 := ih.2 rfl
  have h1 := h0 true
  have h2 := bl_wrap (t := t) (n := 32 * t.bulk - 12) (fun l => by have := h0 l; omega) 1 last
  rw [body_all, bl_cons, bl_cons, bl_app, bl_cons, bl_cons, bl_none, bl_names, w1, w1, bulk_no, bulks_one]
  have e : (⟨#[97, 108, 108]⟩ : ByteArray).size = 3 := rfl
  have e2 : (⟨#[46]⟩ : ByteArray).size = 1 := rfl
  omega
end P
end
end Go.Proofs.YthiadenmljbdaaaGreatDoor
