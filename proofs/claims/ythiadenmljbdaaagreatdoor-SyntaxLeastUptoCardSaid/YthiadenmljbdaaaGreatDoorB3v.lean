/-
  v: the parts PMid PLeast3 PLeast4 of the proof.
-/
import Derived.Test.YthiadenmljbdaaaGreatDoorB15s
import Derived.Test.YthiadenmljbdaaaGreatDoorB2v
import Derived.Test.YthiadenmljbdaaaGreatDoorB38s
import Derived.Test.YthiadenmljbdaaaGreatDoorB36s
import Derived.Test.YthiadenmljbdaaaGreatDoorB1v
section
namespace Go.Proofs.YthiadenmljbdaaaGreatDoor
namespace P
def kx (w : List UInt8) (n : Nat) : List Ky := keys (X.tks w (X.lex w n).1)
def Stop (r : List UInt8) : Prop := r = [] ∨ (X.rowc (r.getD 0 0) = false ∧ r.getD 0 0 ≠ 61)
theorem head_app {l r : List UInt8} (h : l ≠ []) : (l ++ r).headD 0 = l.headD 0 := by
  cases l with
  | nil => exact absurd rfl h
  | cons a b => rfl
theorem lexF_zero (l : List UInt8) : ∀ (f n : Nat), (X.lexF l f n).2.1 = 0 → (X.lexF l f n).2 = (0, 0)
  | 0, _, _ => rfl
  | f + 1, n, h => by
    unfold X.lexF at h ⊢
    split
    · rfl
    · rename_i h1
      rw [if_neg h1] at h
      split
      · rename_i h2
        rw [if_pos h2] at h
        exact lexF_zero l f _ h
      · rename_i h2
        rw [if_neg h2] at h
        split
        · rename_i h3
          rw [if_pos h3] at h
          exact absurd h h3
        · rename_i h3
          rw [if_neg h3] at h
          exact lexF_zero l f _ h
theorem kx_tok {w : List UInt8} {n : Nat} (h : n < w.length) (hb : X.blank (w.getD n 0) = false) (he : (X.one (w.drop n)).1 = 0) :
    kx w n = ((X.one (w.drop n)).2.1, ⟨((w.drop n).take (X.one (w.drop n)).2.2).toArray⟩, (if (X.one (w.drop n)).2.1 = 1 then N.ofN (N.val ((w.drop n).take (X.one (w.drop n)).2.2)) else [])) :: kx w (n + (X.one (w.drop n)).2.2) := by
  unfold kx
  rw [X.lex_tok h hb he]
  rfl
theorem kx_end {w : List UInt8} {n : Nat} (h : w.length ≤ n) : kx w n = [] ∧ (X.lex w n).2 = (0, 0) := by
  unfold kx
  rw [X.lex_end h]
  exact ⟨rfl, rfl⟩
def Fine (w : List UInt8) (l : List Ky) : Prop := kx w 0 = l ∧ (X.lex w 0).2 = (0, 0)
theorem size_list (S : ByteArray) : S.data.toList.length = S.size := by rw [Array.length_toList]; rfl
theorem res_ok {S : ByteArray} {t : T} (h : res S = (0, 0, t)) : S.size ≤ 4096 ∧ (∃ l, Fine S.data.toList l ∧ ∃ e x, keys x = l ∧ read e x = .ok t []) ∧ t.depth ≤ 60 := by
  unfold res at h
  by_cases h0 : 4096 < S.size
  · rw [if_pos h0] at h
    injection h with h _
    exact absurd h (by decide)
  rw [if_neg h0] at h
  by_cases h1 : (X.ans S.data.toList).2.1 ≠ 0
  · rw [if_pos h1] at h
    injection h with h _
    exact absurd h h1
  rw [if_neg h1] at h
  have hl : S.data.toList.length ≤ 4096 := by rw [size_list]; omega
  have ht : X.tokens S.data.toList = X.lex S.data.toList 0 := by unfold X.tokens; first | rw [if_neg (by omega)] | rw [if_pos (by omega)]
  have hz : (X.tokens S.data.toList).2.1 = 0 := by
    by_cases hz : (X.tokens S.data.toList).2.1 = 0
    · exact hz
    · exfalso
      apply h1
      unfold X.ans
      rw [if_neg hz]
      exact hz
  have ha : X.ans S.data.toList = X.lex S.data.toList 0 := by
    unfold X.ans
    rw [if_pos hz, ht]
  rw [ha] at h
  rw [ht] at hz
  have hzz : (X.lex S.data.toList 0).2 = (0, 0) := lexF_zero _ _ _ hz
  obtain ⟨⟨r, hr⟩, hd⟩ := resOf_ok (read_nb _ _) (read_out _ _) h
  obtain rfl := (read_ok hr).2
  exact ⟨by omega, ⟨_, ⟨rfl, hzz⟩, S.size, _, rfl, hr⟩, hd⟩
def Seg (x : List UInt8) (l : List Ky) (r : List UInt8) : Prop := ∀ pre, kx (pre ++ (x ++ r)) pre.length = l ++ kx (pre ++ (x ++ r)) (pre.length + x.length) ∧ (X.lex (pre ++ (x ++ r)) pre.length).2 = (X.lex (pre ++ (x ++ r)) (pre.length + x.length)).2
theorem Seg.app {x y r : List UInt8} {l m : List Ky} (h : Seg x l (y ++ r)) (k : Seg y m r) : Seg (x ++ y) (l ++ m) r := fun pre => by
  have h1 := h pre
  have h2 := k (pre ++ x)
  rw [List.append_assoc] at h2
  rw [List.append_assoc, h1.1, h1.2, List.length_append, ← Nat.add_assoc, ← List.length_append, h2.1, h2.2, List.append_assoc]
  exact ⟨rfl, rfl⟩
end P
end Go.Proofs.YthiadenmljbdaaaGreatDoor
end
section
namespace Go.Proofs.YthiadenmljbdaaaGreatDoor
namespace P
def kc : List Ky → Nat
  | [] => 0
  | x :: l => (if x.2.1 = ⟨#[40]⟩ then 1 else 0) + kc l
theorem wc_keys : ∀ l : List Wd, wc l = kc (keys l)
  | [] => rfl
  | x :: l => by
    show (if x.2.1 = ⟨#[40]⟩ then 1 else 0) + wc l = (if x.2.1 = ⟨#[40]⟩ then 1 else 0) + kc (keys l)
    rw [wc_keys l]
theorem count_drop (w : List UInt8) (n k : Nat) (c : UInt8) : (w.drop n).count c = ((w.drop n).take k).count c + (w.drop (n + k)).count c := by
  rw [← List.drop_drop, ← List.count_append, List.take_append_drop]
theorem kc_le (w : List UInt8) : ∀ (k n : Nat), k + n = w.length → kc (kx w n) ≤ (w.drop n).count 40 := by
  intro k
  induction k using Nat.strongRecOn with
  | _ k ih =>
    intro n hk
    by_cases h0 : w.length ≤ n
    · rw [(kx_end h0).1]
      exact Nat.zero_le _
    · have hn : n < w.length := by omega
      by_cases hb : X.blank (w.getD n 0) = true
      · have e1 : kx w n = kx w (n + 1) := by unfold kx; rw [X.lex_blank hn hb]
        have := ih (k - 1) (by omega) (n + 1) (by omega)
        rw [e1, count_drop w n 1]
        omega
      · have hb' := not_true hb
        by_cases h1 : (X.one (w.drop n)).1 = 0
        · have hp := X.one_pos h1
          rw [List.length_drop] at hp
          have := ih (k - (X.one (w.drop n)).2.2) (by omega) (n + (X.one (w.drop n)).2.2) (by omega)
          rw [kx_tok hn hb' h1, count_drop w n (X.one (w.drop n)).2.2]
          generalize (w.drop n).take (X.one (w.drop n)).2.2 = m
          unfold kc
          dsimp only
          split
          · rename_i he
            injection he with he
            have hm : m = [40] := by have := congrArg Array.toList he; simpa using this
            rw [hm]
            show 1 + _ ≤ 1 + _
            omega
          · omega
        · have : kx w n = [] := by unfold kx; rw [X.lex_err hn hb' h1]; rfl
          rw [this]
          exact Nat.zero_le _
theorem one_count {m : List UInt8} {k n : Nat} (h : X.one m = (0, k, n)) : (m.take n).count 40 = 0 ∨ (k = 4 ∧ m.take n = [40]) := by
  unfold X.one at h
  by_cases hr : 0 < X.rowLen m
  · rw [if_pos hr] at h
    injection h with _ h
    injection h with _ h
    subst h
    left
    rw [List.count_eq_zero]
    intro hm
    obtain ⟨j, hj, he⟩ := List.getElem_of_mem hm
    rw [List.length_take] at hj
    have h1 := rowLen_all (l := m) (j := j) (by omega)
    rw [List.getElem_take] at he
    have h2 : m.getD j 0 = 40 := by rw [List.getD_eq_getElem?_getD, List.getElem?_eq_getElem (by omega)]; exact he
    rw [h2] at h1
    exact absurd h1 (by decide)
  · rw [if_neg hr] at h
    by_cases hs : X.sgnLen m = 0
    · rw [if_pos hs] at h
      injection h with h _
      exact absurd h (by decide)
    · rw [if_neg hs] at h
      injection h with _ h
      injection h with hk h
      subst h hk
      unfold X.sgnLen at hs ⊢
      cases m with
      | nil => exact absurd rfl hs
      | cons a m =>
        by_cases hx : 1 < (a :: m).length ∧ (a :: m).getD 1 0 = 61 ∧ X.sgn2 ((a :: m).headD 0) = true
        · rw [if_pos hx]
          left
          cases m with
          | nil => exact absurd hx.1 (by simp)
          | cons b m =>
            have hb : b = 61 := hx.2.1
            have ha : a ≠ 40 := fun e => by subst e; exact absurd hx.2.2 (show ¬ X.sgn2 40 = true by decide)
            subst hb
            show [a, 61].count 40 = 0
            rw [List.count_eq_zero]
            simp
            exact fun e => ha e.symm
        · rw [if_neg hx]
          split
          · show [a].count 40 = 0 ∨ (4 = 4 ∧ [a] = [40])
            by_cases ha : a = 40
            · right; rw [ha]; exact ⟨rfl, rfl⟩
            · left
              rw [List.count_eq_zero]
              simp
              exact fun e => ha e.symm
          · left; rfl
theorem stands_count {x : Ky} {r : List UInt8} (h : Stands x r) : x.2.1.data.toList.count 40 = 0 ∨ (itP (Option.some x) = 1 ∧ x.2.1.data.toList = [40]) := by
  have h1 := one_count h.1
  rw [List.take_left] at h1
  rcases h1 with h1 | ⟨h1, h2⟩
  · exact .inl h1
  · refine .inr ⟨if_pos ⟨h1, ?_⟩, h2⟩
    have : x.2.1.data = #[40] := by
      apply Array.toList_inj.1
      exact h2
    exact congrArg ByteArray.mk this
theorem chn_count : ∀ (l : List It) (r : List UInt8), Chn l r → (bytes l).count 40 ≤ pc l
  | [], _, _ => Nat.le_refl _
  | Option.none :: l, r, h => by
    rw [bytes_cons, List.count_append, pc_none]
    have := chn_count l r h
    show [32].count 40 + _ ≤ _
    have e : ([32] : List UInt8).count 40 = 0 := by decide
    omega
  | Option.some x :: l, r, h => by
    rw [bytes_cons, List.count_append, pc]
    have := chn_count l r h.2
    show x.2.1.data.toList.count 40 + _ ≤ _
    rcases stands_count h.1 with h1 | ⟨h1, h2⟩
    · omega
    · rw [h1, h2]
      have e : ([40] : List UInt8).count 40 = 1 := by decide
      omega
def itQ : It → Nat
  | Option.none => 0
  | Option.some x => if x.1 = 4 ∧ x.2.1 = ⟨#[41]⟩ then 1 else 0
def qc : List It → Nat
  | [] => 0
  | x :: l => itQ x + qc l
theorem qc_app : ∀ a b : List It, qc (a ++ b) = qc a + qc b
  | [], b => by simp [qc]
  | x :: a, b => by rw [List.cons_append, qc, qc, qc_app a b]; omega
theorem qc_count : ∀ l : List It, qc l ≤ (bytes l).count 41
  | [] => Nat.le_refl _
  | Option.none :: l => by
    rw [bytes_cons, List.count_append, qc]
    have := qc_count l
    show 0 + _ ≤ _
    omega
  | Option.some x :: l => by
    rw [bytes_cons, List.count_append, qc]
    have := qc_count l
    show (if x.1 = 4 ∧ x.2.1 = ⟨#[41]⟩ then 1 else 0) + _ ≤ x.2.1.data.toList.count 41 + _
    split
    · rename_i h
      rw [h.2]
      have e : ((⟨#[41]⟩ : ByteArray).data.toList).count 41 = 1 := by decide
      omega
    · omega
def SI : List It → Prop
  | [] => True
  | x :: l => pc (x :: l) ≤ qc (x :: l) ∧ SI l
theorem SI.le : ∀ {l : List It}, SI l → pc l ≤ qc l
  | [], _ => Nat.le_refl _
  | _ :: _, h => h.1
theorem SI.app : ∀ {a b : List It}, SI a → SI b → SI (a ++ b)
  | [], _, _, h => h
  | x :: a, b, h, k => by
    refine ⟨?_, SI.app h.2 k⟩
    show pc ((x :: a) ++ b) ≤ qc ((x :: a) ++ b)
    rw [pc_app, qc_app]
    exact Nat.add_le_add h.1 k.le
theorem SI.cons {x : It} {l : List It} (hx : itP x = 0) (h : SI l) : SI (x :: l) := by
  refine ⟨?_, h⟩
  rw [pc, qc]
  have := h.le
  omega
theorem SI.none {l : List It} (h : SI l) : SI (Option.none :: l) := SI.cons rfl h
theorem SI.word {k : Nat} (s : ByteArray) (m : List Nat) {l : List It} (hk : k ≠ 4 ∨ s ≠ ⟨#[40]⟩) (h : SI l) : SI (Option.some (k, s, m) :: l) :=
  SI.cons (if_neg (fun h2 => hk.elim (fun h => h h2.1) (fun h => h h2.2))) h
theorem SI.par {a : List It} (h : SI a) : SI (par a) := by
  refine ⟨?_, h.app (SI.word ⟨#[41]⟩ [] (.inr (by decide)) trivial)⟩
  rw [pc, qc, pc_app, qc_app]
  have := h.le
  show 1 + (pc a + 0) ≤ 0 + (qc a + 1)
  omega
def SP (p : Pt) : Prop := ∀ last, SI (p.2 last)
theorem sp0 : SP p0 := fun _ => trivial
theorem sp_wrap {p : Pt} (h : SP p) (n : Nat) (last : Bool) : SI (wrap n last p) := by
  rcases cw_or n last p with ⟨e, _⟩ | ⟨e, _⟩
  · rw [e]; exact (h true).par
  · rw [e]; exact h last
theorem sp_tight {p : Pt} (h : SP p) : SI (tight p) := by
  unfold tight
  split
  · exact (h true).par
  · exact h true
theorem sp_rowR {w : ByteArray} {o : Nat} {last : Bool} : ∀ {ps : List Pt}, (∀ p ∈ ps, SP p) → SI (rowR w o last ps)
  | [], _ => trivial
  | p :: ps, h => by
    unfold rowR
    exact SI.none (SI.word _ _ (.inl (by decide)) (SI.none ((sp_wrap (h p List.mem_cons_self) _ _).app (sp_rowR (fun q hq => h q (List.mem_cons_of_mem _ hq))))))
theorem sp_row {w : ByteArray} {n o : Nat} {last : Bool} {ps : List Pt} (h : ∀ p ∈ ps, SP p) : SI (row w n o last ps) := by
  cases ps with
  | nil => exact trivial
  | cons p ps =>
    unfold row
    exact (sp_wrap (h p List.mem_cons_self) _ _).app (sp_rowR (fun q hq => h q (List.mem_cons_of_mem _ hq)))
theorem sp_get {ps : List Pt} (h : ∀ p ∈ ps, SP p) (i : Nat) : SP (ps.getD i p0) := by
  by_cases hi : i < ps.length
  · rw [List.getD_eq_getElem?_getD, List.getElem?_eq_getElem hi]
    exact h _ (List.getElem_mem hi)
  · rw [List.getD_eq_getElem?_getD, List.getElem?_eq_none (by omega)]
    exact sp0
theorem sp_names {l : List It} (h : SI l) : ∀ ns : List ByteArray, SI (namesIt ns ++ l)
  | [] => h
  | s :: ns => SI.word s [] (.inl (by decide)) (SI.none (sp_names h ns))
theorem sgn_ne (k : Int) : sgn k ≠ ⟨#[40]⟩ := by
  unfold sgn
  split
  · decide
  split
  · decide
  split
  · decide
  split
  · decide
  split <;> decide
theorem asm_sp (k : Int) (nm : ByteArray) (ns : List ByteArray) (m : List Nat) {ps : List Pt} (h : ∀ p ∈ ps, SP p) (last : Bool) : SI (asm k nm ns m ps last) := by
  have h0 := sp_get h 0
  have h1 := sp_get h 1
  unfold asm
  dsimp only
  generalize ps.getD 0 p0 = a at h0
  generalize ps.getD 1 p0 = b at h1
  by_cases h1k : k = 1
  · rw [if_pos h1k]
    exact SI.word _ _ (.inl (by decide)) trivial
  rw [if_neg h1k]
  by_cases h2k : k = 2
  · rw [if_pos h2k]
    exact SI.word _ _ (.inl (by decide)) trivial
  rw [if_neg h2k]
  by_cases h3k : k = 3
  · rw [if_pos h3k]
    exact SI.word _ _ (.inr (by decide)) (sp_tight h0)
  rw [if_neg h3k]
  by_cases h4k : k = 4
  · rw [if_pos h4k]
    exact (h0 true).app (SI.none (SI.word _ _ (.inr (by decide)) (SI.none (sp_tight h1))))
  rw [if_neg h4k]
  by_cases h5k : k = 5
  · rw [if_pos h5k]
    exact (h0 true).app (SI.none (SI.word _ _ (.inr (by decide)) (SI.none (sp_tight h1))))
  rw [if_neg h5k]
  by_cases h6k : k = 6
  · rw [if_pos h6k]
    exact SI.word _ _ (.inl (by decide)) (SI.none (SI.word _ _ (.inr (by decide)) (SI.none (sp_tight h0))))
  rw [if_neg h6k]
  by_cases h7k : k = 7
  · rw [if_pos h7k]
    exact SI.word _ _ (.inl (by decide)) trivial
  rw [if_neg h7k]
  by_cases h8k : k = 8
  · rw [if_pos h8k]
    exact SI.word _ _ (.inl (by decide)) trivial
  rw [if_neg h8k]
  by_cases h15k : k = 15
  · rw [if_pos h15k]
    exact SI.word _ _ (.inl (by decide)) (SI.none (SI.word _ _ (.inl (by decide)) (SI.none (h0 true))))
  rw [if_neg h15k]
  by_cases h16k : k = 16
  · rw [if_pos h16k]
    exact SI.word _ _ (.inl (by decide)) (SI.none (sp_wrap h0 _ _))
  rw [if_neg h16k]
  by_cases h17k : k = 17
  · rw [if_pos h17k]
    exact sp_row h
  rw [if_neg h17k]
  by_cases h18k : k = 18
  · rw [if_pos h18k]
    exact sp_row h
  rw [if_neg h18k]
  by_cases h19k : k = 19
  · rw [if_pos h19k]
    exact sp_row h
  rw [if_neg h19k]
  by_cases h20k : k = 20
  · rw [if_pos h20k]
    exact sp_row h
  rw [if_neg h20k]
  by_cases h21k : k = 21
  · rw [if_pos h21k]
    exact SI.word _ _ (.inl (by decide)) (SI.none (sp_names (SI.word _ _ (.inr (by decide)) (SI.none (sp_wrap h0 _ _))) ns))
  rw [if_neg h21k]
  by_cases h22k : k = 22
  · rw [if_pos h22k]
    exact SI.word _ _ (.inl (by decide)) (SI.none (sp_names (SI.word _ _ (.inr (by decide)) (SI.none (sp_wrap h0 _ _))) ns))
  rw [if_neg h22k]
  exact (h0 true).app (SI.none (SI.word _ _ (.inr (sgn_ne k)) (SI.none (h1 true))))
mutual
theorem body_sp : ∀ t : T, SP (pt t)
  | .node k nm ns ng m ks => fun last => by
    show SI (asm k nm ns m (parts ks) last)
    exact asm_sp k nm ns m (parts_sp ks) last
theorem parts_sp : ∀ ks : List T, ∀ p ∈ parts ks, SP p
  | [], _, h => by cases h
  | t :: r, p, h => by
    rw [parts_cons] at h
    rcases List.mem_cons.1 h with rfl | h
    · exact body_sp t
    · exact parts_sp r p h
end
theorem si_bytes : ∀ (l : List It) (r : List UInt8), Chn l r → SI l → ∀ i, ((bytes l).drop i).count 40 ≤ ((bytes l).drop i).count 41
  | [], _, _, _, i => by simp [bytes]
  | Option.none :: l, r, h, hs, i => by
    have ih := si_bytes l r h hs.2
    rw [bytes_cons]
    show (([32] ++ bytes l).drop i).count 40 ≤ _
    cases i with
    | zero =>
      have h0 := ih 0
      have e : ([32] : List UInt8).count 40 = 0 := by decide
      rw [List.drop_zero] at h0
      show ([32] ++ bytes l).count 40 ≤ ([32] ++ bytes l).count 41
      rw [List.count_append, e, List.count_append]
      omega
    | succ i => exact ih i
  | Option.some x :: l, r, h, hs, i => by
    have ih := si_bytes l r h.2 hs.2
    have hsz : (bytes (Option.some x :: l)).drop i = x.2.1.data.toList.drop i ++ (bytes l).drop (i - x.2.1.data.toList.length) := by
      rw [bytes_cons, List.drop_append]
      rfl
    rcases stands_count h.1 with h1 | ⟨_, h2⟩
    · rw [hsz, List.count_append, List.count_append]
      have e : (x.2.1.data.toList.drop i).count 40 = 0 := by
        rw [List.count_eq_zero] at h1 ⊢
        exact fun hm => h1 (List.mem_of_mem_drop hm)
      have := ih (i - x.2.1.data.toList.length)
      omega
    · cases i with
      | zero =>
        rw [List.drop_zero]
        have a := chn_count _ _ h
        have b := qc_count (Option.some x :: l)
        have c := hs.le
        omega
      | succ i =>
        rw [hsz, h2]
        have : ([40] : List UInt8).drop (i + 1) = [] := by simp
        rw [this, List.nil_append]
        exact ih _
theorem said_facts {t : T} (h : Wf true t) : (said t).count 40 ≤ cw 1 true t ∧ ∀ i, ((said t).drop i).count 40 ≤ ((said t).drop i).count 41 := by
  have hc : Chn (wrap 1 true (pt t)) [] := chn_wrap ((chn_all h).2 rfl) (.inl rfl)
  exact ⟨chn_count _ _ hc, si_bytes _ _ hc (sp_wrap (body_sp t) 1 true)⟩
theorem res_count {S : ByteArray} {t : T} (h : res S = (0, 0, t)) : cw 1 true t ≤ S.data.toList.count 40 := by
  obtain ⟨_, ⟨l, hf, e, x, hx, hr⟩, _⟩ := res_ok h
  have h1 : wc ([] : List Wd) + cw 1 (nl []) t ≤ wc x ∧ cl ([] : List Wd) = 0 := least e _ _ _ _ _ (rds_of_read hr)
  have h2 := kc_le S.data.toList S.data.toList.length 0 (by omega)
  rw [hf.1, List.drop_zero] at h2
  rw [wc_keys x, hx] at h1
  have e1 : wc ([] : List Wd) = 0 := rfl
  have e2 : nl [] = true := rfl
  rw [e2] at h1
  omega
end P
end Go.Proofs.YthiadenmljbdaaaGreatDoor
end
section
namespace Go.Proofs.YthiadenmljbdaaaGreatDoor
theorem icmp_zero {x y : Nat} (h : (icmp (sgn false x) (sgn false y) == 0) = true) : x = y := by
  rw [sgn_false, sgn_false] at h
  have h := eq_of_beq h
  rcases icmp_cases (x : Int) (y : Int) with ⟨_, e⟩ | ⟨e, _⟩ | ⟨_, e⟩
  · rw [e] at h; exact absurd h (by decide)
  · omega
  · rw [e] at h; exact absurd h (by decide)
namespace P
theorem nok0 : NOK [] := nok_nil
theorem one_mem {b : Bool} {a : T} (h : Wf b a) : ∀ u ∈ [a], ∃ c, Wf c u := fun u hu => by
  rw [List.mem_singleton.1 hu]
  exact ⟨_, h⟩
theorem two_mem {b b' : Bool} {a c : T} (h : Wf b a) (h' : Wf b' c) : ∀ u ∈ [a, c], ∃ c, Wf c u := fun u hu => by
  rcases List.mem_cons.1 hu with rfl | hu
  · exact ⟨_, h⟩
  · exact one_mem h' u hu
theorem wf_parts {b : Bool} {k : Int} {nm : ByteArray} {ns : List ByteArray} {ng : Bool} {m : List Nat} {ks : List T} (h : Wf b (.node k nm ns ng m ks)) : ng = false ∧ NOK m ∧ ∀ u ∈ ks, ∃ c, Wf c u := by
  cases h with
  | num _ hm => exact ⟨rfl, hm, fun u hu => by cases hu⟩
  | var _ hs => exact ⟨rfl, nok0, fun u hu => by cases hu⟩
  | neg a ha => exact ⟨rfl, nok0, one_mem ha⟩
  | add a c ha hc =>
    exact ⟨rfl, nok0, two_mem ha hc⟩
  | sub a c ha hc =>
    exact ⟨rfl, nok0, two_mem ha hc⟩
  | mul _ hm a ha => exact ⟨rfl, hm, one_mem ha⟩
  | tt => exact ⟨rfl, nok0, fun u hu => by cases hu⟩
  | ff => exact ⟨rfl, nok0, fun u hu => by cases hu⟩
  | cmp _ hk a c ha hc =>
    exact ⟨rfl, nok0, two_mem ha hc⟩
  | div _ hm _ a ha => exact ⟨rfl, hm, one_mem ha⟩
  | not a ha => exact ⟨rfl, nok0, one_mem ha⟩
  | and a c ks ha hc hks =>
    refine ⟨rfl, nok0, fun u hu => ?_⟩
    rcases List.mem_cons.1 hu with rfl | hu
    · exact ⟨_, ha⟩
    rcases List.mem_cons.1 hu with rfl | hu
    · exact ⟨_, hc⟩
    · exact ⟨_, hks u hu⟩
  | or a c ks ha hc hks =>
    refine ⟨rfl, nok0, fun u hu => ?_⟩
    rcases List.mem_cons.1 hu with rfl | hu
    · exact ⟨_, ha⟩
    rcases List.mem_cons.1 hu with rfl | hu
    · exact ⟨_, hc⟩
    · exact ⟨_, hks u hu⟩
  | imp a c ha hc =>
    exact ⟨rfl, nok0, two_mem ha hc⟩
  | iff a c ha hc =>
    exact ⟨rfl, nok0, two_mem ha hc⟩
  | some s ns hs hns a ha => exact ⟨rfl, nok0, one_mem ha⟩
  | all s ns hs hns a ha => exact ⟨rfl, nok0, one_mem ha⟩
mutual
theorem sm_one : ∀ (t u : T) (b c : Bool), Wf b t → Wf c u → t.sm u = true → t = u
  | .node k nm ns ng m ks, .node k' nm' ns' ng' m' ks', b, c, h, h', hs => by
    obtain ⟨rfl, hm, hk⟩ := wf_parts h
    obtain ⟨rfl, hm', hk'⟩ := wf_parts h'
    rw [T.sm_eq] at hs
    simp only [T.k, T.nm, T.ns, T.ng, T.mg, T.ks, Bool.and_eq_true] at hs
    obtain ⟨h1, h2, h3, h4, h5⟩ := hs
    have e1 : k = k' := eq_of_beq h1
    have e4 : m = m' := by rw [← hm.2, ← hm'.2, icmp_zero h4]
    have e5 := sms_one ks ks' hk hk' h5
    rw [e1, of_decide_eq_true h2, of_decide_eq_true h3, e4, e5]
theorem sms_one : ∀ (ks ls : List T), (∀ u ∈ ks, ∃ c, Wf c u) → (∀ u ∈ ls, ∃ c, Wf c u) → T.sms ks ls = true → ks = ls
  | [], [], _, _, _ => rfl
  | [], _ :: _, _, _, h => by rw [T.sms] at h; cases h
  | _ :: _, [], _, _, h => by rw [T.sms] at h; cases h
  | t :: r, u :: s, h, h', hs => by
    rw [T.sms, Bool.and_eq_true] at hs
    obtain ⟨b, hb⟩ := h t List.mem_cons_self
    obtain ⟨c, hc⟩ := h' u List.mem_cons_self
    rw [sm_one t u b c hb hc hs.1, sms_one r s (fun a ha => h a (List.mem_cons_of_mem _ ha)) (fun a ha => h' a (List.mem_cons_of_mem _ ha)) hs.2]
end
theorem count_at (l : List UInt8) (c : UInt8) {i : Nat} (hi : i < l.length) : (l.drop i).count c = (if l.getD i 0 = c then 1 else 0) + (l.drop (i + 1)).count c := by
  rw [List.drop_eq_getElem_cons hi, List.count_cons]
  have e : l.getD i 0 = l[i] := by rw [List.getD_eq_getElem?_getD, List.getElem?_eq_getElem hi]; rfl
  rw [e, Nat.add_comm]
  congr 1
  by_cases h : l[i] = c
  · rw [if_pos h, h]; simp
  · rw [if_neg h]; simp [h]
theorem count_cut (l : List UInt8) {i k : Nat} (hik : i < k) (hk : k < l.length) (h40 : l.getD i 0 = 40) (h41 : l.getD k 0 = 41) :
    (l.take i ++ ((l.drop (i + 1)).take (k - (i + 1)) ++ l.drop (k + 1))).count 40 + 1 = l.count 40 := by
  have e1 : l.count 40 = (l.take i).count 40 + (l.drop i).count 40 := by rw [← List.count_append, List.take_append_drop]
  have e2 := count_at l 40 (show i < l.length by omega)
  rw [if_pos h40] at e2
  have e3 := count_drop l (i + 1) (k - (i + 1)) 40
  rw [show i + 1 + (k - (i + 1)) = k by omega] at e3
  have e4 := count_at l 40 hk
  rw [if_neg (by rw [h41]; decide)] at e4
  rw [List.count_append, List.count_append]
  omega
theorem least_law {t u : T} {S S' : ByteArray} (h : Wf true t) (hS : S.data.toList = said t) {i k : Nat} (hik : i < k) (hk : k < S.data.toList.length) (h40 : S.data.toList.getD i 0 = 40) (h41 : S.data.toList.getD k 0 = 41)
    (hS' : S'.data.toList = S.data.toList.take i ++ ((S.data.toList.drop (i + 1)).take (k - (i + 1)) ++ S.data.toList.drop (k + 1))) (hr : res S' = (0, 0, u)) : t.sm u = false := by
  cases hs : t.sm u
  · rfl
  · exfalso
    obtain ⟨hu, _⟩ := res_wf hr
    have e := sm_one t u _ _ h hu hs
    subst e
    have h1 := res_count hr
    have h2 := (said_facts h).1
    have h3 := count_cut S.data.toList hik hk h40 h41
    rw [← hS'] at h3
    rw [← hS] at h2
    omega
def opn (l : List UInt8) (i j : Nat) : Int := (((l.drop i).take j).count 40 : Nat) - (((l.drop i).take j).count 41 : Nat)
theorem opn_zero (l : List UInt8) (i : Nat) : opn l i 0 = 0 := by simp [opn]
theorem take_count (l : List UInt8) (c : UInt8) {i j : Nat} (h : i + j < l.length) : ((l.drop i).take (j + 1)).count c = ((l.drop i).take j).count c + (if l.getD (i + j) 0 = c then 1 else 0) := by
  have e1 := count_drop l i j c
  have e2 := count_drop l i (j + 1) c
  have e3 := count_at l c h
  rw [← Nat.add_assoc] at e2
  omega
theorem opn_succ (l : List UInt8) {i j : Nat} (h : i + j < l.length) : opn l i (j + 1) = opn l i j + (if l.getD (i + j) 0 = 40 then 1 else 0) - (if l.getD (i + j) 0 = 41 then 1 else 0) := by
  unfold opn
  rw [take_count l 40 h, take_count l 41 h]
  split <;> split <;> omega
theorem opn_end {l : List UInt8} {i j : Nat} (h : i + j = l.length) (hs : (l.drop i).count 40 ≤ (l.drop i).count 41) : opn l i j ≤ 0 := by
  unfold opn
  rw [List.take_of_length_le (by rw [List.length_drop]; omega)]
  omega
end P
end Go.Proofs.YthiadenmljbdaaaGreatDoor
end
