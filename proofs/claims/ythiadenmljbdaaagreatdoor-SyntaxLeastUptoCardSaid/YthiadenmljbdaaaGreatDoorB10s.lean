/-
  s: the parts YKind YName PPrint of the proof.
-/
import Derived.Test.YthiadenmljbdaaaGreatDoorB9s
section
namespace Go.Proofs.YthiadenmljbdaaaGreatDoor
open Go.RowKit
def okK (k : Int) : Bool := decide (1 ≤ k) && decide (k ≤ 22)
def fmK (k : Int) : Bool := decide (7 ≤ k) && decide (k ≤ 22)
def nameK (k : Int) : Bool := k == 2
def namesK (k : Int) : Bool := k == 21 || k == 22
def numK (k : Int) : Bool := k == 1 || k == 6 || k == 15
def leastK (k : Int) : Int := if k == 1 || k == 2 || k == 7 || k == 8 then 0 else if k == 3 || k == 6 || k == 15 || k == 16 || k == 21 || k == 22 then 1 else 2
def mostK (k : Int) : Int := if k == 1 || k == 2 || k == 7 || k == 8 then 0 else if k == 3 || k == 6 || k == 15 || k == 16 || k == 21 || k == 22 then 1 else if k == 17 || k == 18 then -1 else 2
def innerK (k : Int) : Bool := decide (16 ≤ k)
theorem kinds {k : Int} (h1 : 1 ≤ k) (h2 : k ≤ 22) : k = 1 ∨ k = 2 ∨ k = 3 ∨ k = 4 ∨ k = 5 ∨ k = 6 ∨ k = 7 ∨ k = 8 ∨ k = 9 ∨ k = 10 ∨ k = 11 ∨ k = 12 ∨ k = 13 ∨ k = 14 ∨ k = 15 ∨ k = 16 ∨ k = 17 ∨ k = 18 ∨ k = 19 ∨ k = 20 ∨ k = 21 ∨ k = 22 := by omega
theorem sizeShape : (Tryz.prog.info? 116).map (·.size) = some 7 := by kernel_rfl
theorem results_shape {fn : Func} {p u : Tmp} (h : fn.results = #[.cell p 116, .tmp u]) (tmps : Array Value) (w : World) (g : Nat) (t : TypeId) (a0 a1 a2 a3 a4 a5 a6 : Value)
    (hp : tmps.getD p undef = .pointer (some ⟨g, 0, none⟩)) (hg : Blk w g t #[a0, a1, a2, a3, a4, a5, a6]) : (results fn tmps).run Tryz.prog w = .ok (.tuple #[.agg #[a0, a1, a2, a3, a4, a5, a6], tmps.getD u undef]) w := by
  have hp' : tmps[p]?.getD undef = .pointer (some ⟨g, 0, none⟩) := by simpa using hp
  simp [results, h, hp', asAddr, run_loadVar_row w g _ 116 _ _ _ hg Tryz.underlying116 rfl sizeShape]
set_option maxHeartbeats 3200000 in
theorem shaped_x (w : World) (k : Int) : Calls Tryz.prog 81 #[.int .i64 k] w fun e w' => (okK k = true → e = .returned (.tuple #[.agg #[.bool (nameK k), .bool (namesK k), .bool (numK k), .int .i64 (leastK k), .int .i64 (mostK k), .bool (innerK k), .bool (fmK k)], .bool true])) ∧ (okK k = false → ∃ s0 s1 s2 s3 s4 s5 s6, e = .returned (.tuple #[.agg #[.bool s0, .bool s1, .bool s2, .int .i64 s3, .int .i64 s4, .bool s5, .bool s6], .bool false])) ∧ Below w.heap.size w w' := by
  by_cases h1 : 1 ≤ k ∧ k ≤ 22
  · rcases kinds h1.1 h1.2 with rfl | rfl | rfl | rfl | rfl | rfl | rfl | rfl | rfl | rfl | rfl | rfl | rfl | rfl | rfl | rfl | rfl | rfl | rfl | rfl | rfl | rfl
    all_goals
      clear h1
      go_enter Tryz.func81, Tryz.ntmps81
      go_wp2_with fail
      refine bodyPost_ret (results_shape rfl _ _ w.heap.size _ _ _ _ _ _ _ _ rfl ((Blk.new _ _ _).below (below_alloc1 _ _))) rfl ?_
      exact ⟨fun _ => rfl, fun h => absurd h (by decide), below_on (below_alloc1 _ _) (below_alloc1 _ _)⟩
  · have hok : okK k = false := by
      unfold okK
      by_cases h2 : 1 ≤ k
      · rw [decide_eq_false (show ¬ k ≤ 22 from fun h => h1 ⟨h2, h⟩)]; simp
      · rw [decide_eq_false h2]; simp
    have HOK := Lib.hid hok
    clear hok
    have n1 : (k == 1) = false := by simp; omega
    have n2 : (k == 2) = false := by simp; omega
    have n3 : (k == 3) = false := by simp; omega
    have n4 : (k == 4) = false := by simp; omega
    have n5 : (k == 5) = false := by simp; omega
    have n6 : (k == 6) = false := by simp; omega
    have n7 : (k == 7) = false := by simp; omega
    have n8 : (k == 8) = false := by simp; omega
    have n9 : (k == 9) = false := by simp; omega
    have n10 : (k == 10) = false := by simp; omega
    have n11 : (k == 11) = false := by simp; omega
    have n12 : (k == 12) = false := by simp; omega
    have n13 : (k == 13) = false := by simp; omega
    have n14 : (k == 14) = false := by simp; omega
    have n15 : (k == 15) = false := by simp; omega
    have n16 : (k == 16) = false := by simp; omega
    have n17 : (k == 17) = false := by simp; omega
    have n18 : (k == 18) = false := by simp; omega
    have n19 : (k == 19) = false := by simp; omega
    have n20 : (k == 20) = false := by simp; omega
    have n21 : (k == 21) = false := by simp; omega
    have n22 : (k == 22) = false := by simp; omega
    clear h1
    go_enter Tryz.func81, Tryz.ntmps81
    go_wp2_with fail
    refine bodyPost_ret (results_shape rfl _ _ w.heap.size _ _ _ _ _ _ _ _ rfl ((Blk.new _ _ _).below (below_alloc1 _ _))) rfl ?_
    exact ⟨fun h => (by rw [HOK.out] at h; cases h), fun _ => ⟨_, _, _, _, _, _, _, rfl⟩, below_on (below_alloc1 _ _) (below_alloc1 _ _)⟩
end Go.Proofs.YthiadenmljbdaaaGreatDoor
end
section
namespace Go.Proofs.YthiadenmljbdaaaGreatDoor
open Go.RowKit
def nameB (s : ByteArray) : Bool := X.name s.data.toList
def namesB (ns : List ByteArray) : Bool := ns.all nameB
theorem namesB_snoc (l : List ByteArray) (s : ByteArray) : namesB (l ++ [s]) = (namesB l && nameB s) := by simp [namesB]
theorem namesB_get : ∀ (l : List ByteArray) (i : Nat), i < l.length → nameB (l.getD i ⟨#[]⟩) = false → namesB l = false
  | [], i, h, _ => absurd h (by simp)
  | t :: r, 0, _, h => by simp at h; simp [namesB, h]
  | t :: r, i + 1, h, h2 => by
    have := namesB_get r i (by simpa using h) (by simpa using h2)
    simp [namesB] at this ⊢
    intro _
    exact this
theorem StrL.below {w w' : World} {R : Nat → Prop} {A : Option Addr} {c : Nat} {ns : List ByteArray} (h : StrL w R A c ns) (hb : Below w.heap.size w w') : StrL w' R A c ns := h.keep (fun _ _ _ hp => keep_cell hp hb) (fun _ h => h)
theorem SlR.below {w w' : World} {R : Nat → Prop} {A : Option Addr} {c : Nat} {l : List Nat} (h : SlR w R A c l) (hb : Below w.heap.size w w') : SlR w' R A c l := h.keep (fun _ _ _ hp => keep_cell hp hb) (fun _ h => h)
set_option maxRecDepth 100000 in
theorem made1_x (w : World) (s : ByteArray) (hs : s.size ≤ 1048576) :
    Calls Tryz.prog 84 #[.string s] w fun e w' => e = .returned (.bool (!nameB s)) ∧ w' = w := by
  go_enter Tryz.func84, Tryz.ntmps84
  go_wp2_with (go_at_call 82; refine (isname_x _ s (by omega)).mono ?_; rintro e w2 ⟨rfl, rfl⟩)
  go_ret
  exact ⟨rfl, rfl⟩
set_option maxRecDepth 100000 in
set_option maxHeartbeats 1600000 in
theorem index_names (w : World) (R : Nat → Prop) (A : Option Addr) (c : Nat) (ns : List ByteArray) (h : StrL w R A c ns) (hb : sbulk ns ≤ 1048576) :
    Calls Tryz.prog 119 #[.slice A ns.length c, .func (.func 84) #[] #[]] w fun e w' => ∃ z : Int, e = .returned (.int .i64 z) ∧ decide (0 ≤ z) = !namesB ns ∧ w' = w := by
  have hl := sbulk_len ns
  obtain ⟨hcap, hc⟩ := h
  obtain ⟨n, hn⟩ : ∃ n, ns.length = n := ⟨_, rfl⟩
  rw [hn] at hcap hc hl ⊢
  have HN := Lib.hid hn
  have HK := Lib.hid hc
  clear hn hc
  go_enter Tryz.func119, Tryz.ntmps119
  go_wp2_with fail
  go_loopg [8] (n + 1) (fun gk v8 wr => ∃ i : Nat, gk + i = n + 1 ∧ i ≤ n ∧ v8 = .int .i64 (i : Nat) ∧ Hid (namesB (ns.take i) = true) ∧ wr = w)
  case atStart => exact ⟨0, by omega, Nat.zero_le _, rfl, Lib.hid rfl, rfl⟩
  case round =>
    obtain ⟨i, hi, hin, rfl, HS, rfl⟩ := hrel
    by_cases hlt : i < n
    · obtain ⟨b, o, rfl, _, hk⟩ := HK.out (by omega)
      have e0 := hk i hlt
      have hsz := sbulk_get ns i (by rw [HN.out]; exact hlt)
      have hget := namesB_get ns i (by rw [HN.out]; exact hlt)
      have hsn := namesB_snoc (ns.take i) (ns.getD i ⟨#[]⟩)
      rw [← take_snoc _ _ _ (by rw [HN.out]; exact hlt)] at hsn
      obtain ⟨s, hs⟩ : ∃ s, ns.getD i ⟨#[]⟩ = s := ⟨_, rfl⟩
      rw [hs] at e0 hsz hget hsn
      have HGET := Lib.hid hget
      have HSN := Lib.hid hsn
      clear hk hs hget hsn
      have hi0 : (0 : Int) ≤ i := by omega
      have hi1 : (i : Int) < n := by omega
      obtain ⟨r, hr⟩ : ∃ r, nameB s = r := ⟨_, rfl⟩
      have HR := Lib.hid hr
      clear hr
      cases r
      · go_wp2_with (go_at_call 84; refine (made1_x _ s (by omega)).mono ?_; rw [HR.out]; rintro e w2 ⟨rfl, rfl⟩)
        go_ret
        exact ⟨_, rfl, by rw [HGET.out HR.out]; exact decide_eq_true hi0, rfl⟩
      · go_wp2_with (go_at_call 84; refine (made1_x _ s (by omega)).mono ?_; rw [HR.out]; rintro e w2 ⟨rfl, rfl⟩)
        go_roundg (n - i)
        case measure => omega
        case rel => exact ⟨i + 1, by omega, by omega, by go_num, Lib.hid (by rw [HSN.out, HS.out, HR.out]; rfl), rfl⟩
    · obtain rfl : i = n := by omega
      have htk : ns.take i = ns := by rw [← HN.out, List.take_length]
      have hf := HS.out
      rw [htk] at hf
      have HF := Lib.hid hf
      clear htk hf
      go_wp2_with fail
      go_ret
      exact ⟨_, rfl, by rw [HF.out]; rfl, rfl⟩
set_option maxRecDepth 100000 in
theorem contains_names (w : World) (R : Nat → Prop) (A : Option Addr) (c : Nat) (ns : List ByteArray) (h : StrL w R A c ns) (hb : sbulk ns ≤ 1048576) :
    Calls Tryz.prog 83 #[.slice A ns.length c, .func (.func 84) #[] #[]] w fun e w' => e = .returned (.bool (!namesB ns)) ∧ w' = w := by
  have H := Lib.hid (index_names w R A c ns h hb)
  obtain ⟨n, hn⟩ : ∃ n, ns.length = n := ⟨_, rfl⟩
  rw [hn] at H ⊢
  clear hb h hn
  go_enter Tryz.func83, Tryz.ntmps83
  go_wp2_with (go_at_call 119; refine H.out.mono ?_; rintro e w2 ⟨z, rfl, hz, rfl⟩)
  go_ret
  exact ⟨by rw [← hz]; simp, rfl⟩
end Go.Proofs.YthiadenmljbdaaaGreatDoor
end
section
namespace Go.Proofs.YthiadenmljbdaaaGreatDoor
namespace P
def Rds (e : Nat) (nt : NT) (l : List Wd) (t : T) (r : List Wd) : Prop := ∃ f, G e f nt l = .ok t r
section
variable {e : Nat} {l r s : List Wd} {t u v : T} {ks : List T}
theorem Rds.two {n1 n2 : NT} {l1 l2 r1 r2 : List Wd} {t1 t2 : T} (h1 : Rds e n1 l1 t1 r1) (h2 : Rds e n2 l2 t2 r2) : ∃ f, G e f n1 l1 = .ok t1 r1 ∧ G e f n2 l2 = .ok t2 r2 := by
  obtain ⟨f1, h1⟩ := h1
  obtain ⟨f2, h2⟩ := h2
  exact ⟨max f1 f2, G_ok_more h1 (Nat.le_max_left _ _), G_ok_more h2 (Nat.le_max_right _ _)⟩
theorem r_form (h1 : Rds e .impl l t r) (h2 : Rds e (.formL t) r u s) : Rds e .form l u s := by
  obtain ⟨f, a, b⟩ := h1.two h2
  exact ⟨f + 1, by rw [G_succ]; simp only [step, a, Rd.bind]; exact b⟩
theorem r_formL0 (h : isW ⟨#[105, 102, 102]⟩ r = false) : Rds e (.formL t) r t r := ⟨1, by rw [G_succ]; simp only [step, h]; rfl⟩
theorem r_formL1 (h : isW ⟨#[105, 102, 102]⟩ l = true) (h1 : Rds e .impl l.tail u r) (h2 : Rds e (.formL (nd 20 [t, u])) r v s) : Rds e (.formL t) l v s := by
  obtain ⟨f, a, b⟩ := h1.two h2
  exact ⟨f + 1, by rw [G_succ]; simp only [step, h, if_true, a, Rd.bind]; exact b⟩
theorem r_impl0 (h1 : Rds e .ored l t r) (h : isW ⟨#[105, 109, 112, 108, 105, 101, 115]⟩ r = false) : Rds e .impl l t r := by
  obtain ⟨f, a⟩ := h1
  exact ⟨f + 1, by rw [G_succ]; simp only [step, a, Rd.bind, h]; rfl⟩
theorem r_impl1 (h1 : Rds e .ored l t r) (h : isW ⟨#[105, 109, 112, 108, 105, 101, 115]⟩ r = true) (h2 : Rds e .impl r.tail u s) : Rds e .impl l (nd 19 [t, u]) s := by
  obtain ⟨f, a, b⟩ := h1.two h2
  exact ⟨f + 1, by rw [G_succ]; simp only [step, a, Rd.bind, h, if_true, b]⟩
theorem r_ored0 (h1 : Rds e .anded l t r) (h : isW ⟨#[111, 114]⟩ r = false) : Rds e .ored l t r := by
  obtain ⟨f, a⟩ := h1
  exact ⟨f + 1, by rw [G_succ]; simp only [step, a, Rd.bind, h]; rfl⟩
theorem r_ored1 (h1 : Rds e .anded l t r) (h : isW ⟨#[111, 114]⟩ r = true) (h2 : Rds e (.orL [t]) r u s) : Rds e .ored l u s := by
  obtain ⟨f, a, b⟩ := h1.two h2
  exact ⟨f + 1, by rw [G_succ]; simp only [step, a, Rd.bind, h, if_true, b]⟩
theorem r_orL0 (h : isW ⟨#[111, 114]⟩ l = false) : Rds e (.orL ks) l (nd 18 ks) l := ⟨1, by rw [G_succ]; simp only [step, h]; rfl⟩
theorem r_orL1 (h : isW ⟨#[111, 114]⟩ l = true) (h1 : Rds e .anded l.tail u r) (h2 : Rds e (.orL (ks ++ [u])) r v s) : Rds e (.orL ks) l v s := by
  obtain ⟨f, a, b⟩ := h1.two h2
  exact ⟨f + 1, by rw [G_succ]; simp only [step, h, if_true, a, Rd.bind]; exact b⟩
theorem r_anded0 (h1 : Rds e .notted l t r) (h : isW ⟨#[97, 110, 100]⟩ r = false) : Rds e .anded l t r := by
  obtain ⟨f, a⟩ := h1
  exact ⟨f + 1, by rw [G_succ]; simp only [step, a, Rd.bind, h]; rfl⟩
theorem r_anded1 (h1 : Rds e .notted l t r) (h : isW ⟨#[97, 110, 100]⟩ r = true) (h2 : Rds e (.andL [t]) r u s) : Rds e .anded l u s := by
  obtain ⟨f, a, b⟩ := h1.two h2
  exact ⟨f + 1, by rw [G_succ]; simp only [step, a, Rd.bind, h, if_true, b]⟩
theorem r_andL0 (h : isW ⟨#[97, 110, 100]⟩ l = false) : Rds e (.andL ks) l (nd 17 ks) l := ⟨1, by rw [G_succ]; simp only [step, h]; rfl⟩
theorem r_andL1 (h : isW ⟨#[97, 110, 100]⟩ l = true) (h1 : Rds e .notted l.tail u r) (h2 : Rds e (.andL (ks ++ [u])) r v s) : Rds e (.andL ks) l v s := by
  obtain ⟨f, a, b⟩ := h1.two h2
  exact ⟨f + 1, by rw [G_succ]; simp only [step, h, if_true, a, Rd.bind]; exact b⟩
theorem r_not (h : isW ⟨#[110, 111, 116]⟩ l = true) (h1 : Rds e .notted l.tail u r) : Rds e .notted l (nd 16 [u]) r := by
  obtain ⟨f, a⟩ := h1
  exact ⟨f + 1, by rw [G_succ]; simp only [step, h, if_true, a, Rd.bind]⟩
theorem r_some (h0 : isW ⟨#[110, 111, 116]⟩ l = false) (h : isW ⟨#[115, 111, 109, 101]⟩ l = true) (hn : (nms l.tail).isEmpty = false) (hd : isW ⟨#[46]⟩ (beh l.tail) = true) (h1 : Rds e .form (beh l.tail).tail u r) : Rds e .notted l (.node 21 ⟨#[]⟩ (nms l.tail) false [] [u]) r := by
  obtain ⟨f, a⟩ := h1
  exact ⟨f + 1, by rw [G_succ]; simp only [step, h0, h, if_true, bound, hn, hd, a, Rd.bind]; rfl⟩
theorem r_all (h0 : isW ⟨#[110, 111, 116]⟩ l = false) (h00 : isW ⟨#[115, 111, 109, 101]⟩ l = false) (h : isW ⟨#[97, 108, 108]⟩ l = true) (hn : (nms l.tail).isEmpty = false) (hd : isW ⟨#[46]⟩ (beh l.tail) = true) (h1 : Rds e .form (beh l.tail).tail u r) : Rds e .notted l (.node 22 ⟨#[]⟩ (nms l.tail) false [] [u]) r := by
  obtain ⟨f, a⟩ := h1
  exact ⟨f + 1, by rw [G_succ]; simp only [step, h0, h00, h, if_true, bound, hn, hd, a, Rd.bind]; rfl⟩
theorem r_notted (h0 : isW ⟨#[110, 111, 116]⟩ l = false) (h00 : isW ⟨#[115, 111, 109, 101]⟩ l = false) (h : isW ⟨#[97, 108, 108]⟩ l = false) (h1 : Rds e .prim l t r) : Rds e .notted l t r := by
  obtain ⟨f, a⟩ := h1
  exact ⟨f + 1, by rw [G_succ]; simp only [step, h0, h00, h]; exact a⟩
theorem r_true (h : isW ⟨#[116, 114, 117, 101]⟩ l = true) : Rds e .prim l (nd 7 []) l.tail := ⟨1, by rw [G_succ]; simp only [step, h, if_true]⟩
theorem r_false (h0 : isW ⟨#[116, 114, 117, 101]⟩ l = false) (h : isW ⟨#[102, 97, 108, 115, 101]⟩ l = true) : Rds e .prim l (nd 8 []) l.tail := ⟨1, by rw [G_succ]; simp only [step, h0, h, if_true]; rfl⟩
theorem r_paren (h0 : isW ⟨#[116, 114, 117, 101]⟩ l = false) (h00 : isW ⟨#[102, 97, 108, 115, 101]⟩ l = false) (h : isW ⟨#[40]⟩ l = true) (h1 : Rds e .form l.tail u r) (h2 : isW ⟨#[41]⟩ r = true) : Rds e .prim l u r.tail := by
  obtain ⟨f, a⟩ := h1
  exact ⟨f + 1, by rw [G_succ]; simp only [step, h0, h00, h, if_true, a, Rd.bind, h2]; rfl⟩
theorem r_div (h0 : isW ⟨#[116, 114, 117, 101]⟩ l = false) (h00 : isW ⟨#[102, 97, 108, 115, 101]⟩ l = false) (h : isW ⟨#[40]⟩ l = false) (hk : kd l = 1) (hd : isW ⟨#[100, 105, 118, 105, 100, 101, 115]⟩ l.tail = true) (hm : (mg l).isEmpty = false) (h1 : Rds e .sum l.tail.tail u r) : Rds e .prim l (.node 15 ⟨#[]⟩ [] false (mg l) [u]) r := by
  obtain ⟨f, a⟩ := h1
  exact ⟨f + 1, by rw [G_succ]; simp only [step, h0, h00, h, hk, hd, hm, a, Rd.bind]; rfl⟩
theorem r_cmp (h0 : isW ⟨#[116, 114, 117, 101]⟩ l = false) (h00 : isW ⟨#[102, 97, 108, 115, 101]⟩ l = false) (h : isW ⟨#[40]⟩ l = false) (hd : (kd l == 1 && isW ⟨#[100, 105, 118, 105, 100, 101, 115]⟩ l.tail) = false) (h1 : Rds e .sum l t r) (hs : sign r ≠ 0) (h2 : Rds e .sum r.tail u s) : Rds e .prim l (nd (sign r) [t, u]) s := by
  obtain ⟨f, a, b⟩ := h1.two h2
  refine ⟨f + 1, ?_⟩
  rw [G_succ]
  simp only [step, h0, h00, h, hd, a, Rd.bind, if_neg hs, b]
  rfl
theorem r_sum (h1 : Rds e .oper l t r) (h2 : Rds e (.sumL t) r u s) : Rds e .sum l u s := by
  obtain ⟨f, a, b⟩ := h1.two h2
  exact ⟨f + 1, by rw [G_succ]; simp only [step, a, Rd.bind]; exact b⟩
theorem r_sumL0 (h : isW ⟨#[45]⟩ l = false) (h0 : isW ⟨#[43]⟩ l = false) : Rds e (.sumL t) l t l := ⟨1, by rw [G_succ]; simp only [step, h, h0]; rfl⟩
theorem r_sumL1 (h : isW ⟨#[45]⟩ l = true) (h1 : Rds e .oper l.tail u r) (h2 : Rds e (.sumL (nd 5 [t, u])) r v s) : Rds e (.sumL t) l v s := by
  obtain ⟨f, a, b⟩ := h1.two h2
  exact ⟨f + 1, by rw [G_succ]; simp only [step, h, if_true, a, Rd.bind]; exact b⟩
theorem r_sumL2 (h0 : isW ⟨#[45]⟩ l = false) (h : isW ⟨#[43]⟩ l = true) (h1 : Rds e .oper l.tail u r) (h2 : Rds e (.sumL (nd 4 [t, u])) r v s) : Rds e (.sumL t) l v s := by
  obtain ⟨f, a, b⟩ := h1.two h2
  refine ⟨f + 1, ?_⟩
  rw [G_succ]
  simp only [step, h0, h, if_true, a, Rd.bind]
  exact b
theorem r_neg (h : isW ⟨#[45]⟩ l = true) (h1 : Rds e .oper l.tail u r) : Rds e .oper l (nd 3 [u]) r := by
  obtain ⟨f, a⟩ := h1
  exact ⟨f + 1, by rw [G_succ]; simp only [step, h, if_true, a, Rd.bind]⟩
theorem r_opar (h0 : isW ⟨#[45]⟩ l = false) (h : isW ⟨#[40]⟩ l = true) (h1 : Rds e .sum l.tail u r) (h2 : isW ⟨#[41]⟩ r = true) : Rds e .oper l u r.tail := by
  obtain ⟨f, a⟩ := h1
  exact ⟨f + 1, by rw [G_succ]; simp only [step, h0, h, if_true, a, Rd.bind, h2]; rfl⟩
theorem r_var (h0 : isW ⟨#[45]⟩ l = false) (h : isW ⟨#[40]⟩ l = false) (hk : kd l = 2) : Rds e .oper l (.node 2 (tx l) [] false [] []) l.tail := ⟨1, by rw [G_succ]; simp only [step, h0, h, hk]; rfl⟩
theorem r_num (h0 : isW ⟨#[45]⟩ l = false) (h : isW ⟨#[40]⟩ l = false) (hk : kd l = 1) (ht : isW ⟨#[42]⟩ l.tail = false) : Rds e .oper l (.node 1 ⟨#[]⟩ [] false (mg l) []) l.tail := ⟨1, by rw [G_succ]; simp only [step, h0, h, hk, ht]; rfl⟩
theorem r_mul (h0 : isW ⟨#[45]⟩ l = false) (h : isW ⟨#[40]⟩ l = false) (hk : kd l = 1) (ht : isW ⟨#[42]⟩ l.tail = true) (h1 : Rds e .oper l.tail.tail u r) : Rds e .oper l (.node 6 ⟨#[]⟩ [] false (mg l) [u]) r := by
  obtain ⟨f, a⟩ := h1
  exact ⟨f + 1, by rw [G_succ]; simp only [step, h0, h, hk, ht, a, Rd.bind]; rfl⟩
end
def NOK (m : List Nat) : Prop := N.Lim m ∧ N.ofN (N.nv m) = m
inductive Wf : Bool → T → Prop
  | num (m : List Nat) (hm : NOK m) : Wf false (.node 1 ⟨#[]⟩ [] false m [])
  | var (s : ByteArray) (hs : nameB s = true) : Wf false (.node 2 s [] false [] [])
  | neg (t : T) (ht : Wf false t) : Wf false (nd 3 [t])
  | add (t u : T) (ht : Wf false t) (hu : Wf false u) : Wf false (nd 4 [t, u])
  | sub (t u : T) (ht : Wf false t) (hu : Wf false u) : Wf false (nd 5 [t, u])
  | mul (m : List Nat) (hm : NOK m) (t : T) (ht : Wf false t) : Wf false (.node 6 ⟨#[]⟩ [] false m [t])
  | tt : Wf true (nd 7 [])
  | ff : Wf true (nd 8 [])
  | cmp (k : Int) (hk : 9 ≤ k ∧ k ≤ 14) (t u : T) (ht : Wf false t) (hu : Wf false u) : Wf true (nd k [t, u])
  | div (m : List Nat) (hm : NOK m) (h0 : m ≠ []) (t : T) (ht : Wf false t) : Wf true (.node 15 ⟨#[]⟩ [] false m [t])
  | not (t : T) (ht : Wf true t) : Wf true (nd 16 [t])
  | and (t u : T) (ks : List T) (ht : Wf true t) (hu : Wf true u) (hks : ∀ k ∈ ks, Wf true k) : Wf true (nd 17 (t :: u :: ks))
  | or (t u : T) (ks : List T) (ht : Wf true t) (hu : Wf true u) (hks : ∀ k ∈ ks, Wf true k) : Wf true (nd 18 (t :: u :: ks))
  | imp (t u : T) (ht : Wf true t) (hu : Wf true u) : Wf true (nd 19 [t, u])
  | iff (t u : T) (ht : Wf true t) (hu : Wf true u) : Wf true (nd 20 [t, u])
  | some (s : ByteArray) (ns : List ByteArray) (hs : nameB s = true) (hns : ∀ a ∈ ns, nameB a = true) (t : T) (ht : Wf true t) : Wf true (.node 21 ⟨#[]⟩ (s :: ns) false [] [t])
  | all (s : ByteArray) (ns : List ByteArray) (hs : nameB s = true) (hns : ∀ a ∈ ns, nameB a = true) (t : T) (ht : Wf true t) : Wf true (.node 22 ⟨#[]⟩ (s :: ns) false [] [t])
abbrev It := Option (Nat × ByteArray × List Nat)
abbrev Sg (s : ByteArray) : It := Option.some (4, s, [])
abbrev Kw (s : ByteArray) : It := Option.some (3, s, [])
abbrev Nm (s : ByteArray) : It := Option.some (2, s, [])
abbrev Nu (m : List Nat) : It := Option.some (1, ⟨(N.txt (N.nv m)).toArray⟩, m)
def toks (l : List It) : List (Nat × ByteArray × List Nat) := l.filterMap id
def level (k : Int) : Nat := if k = 20 then 1 else if k = 19 then 2 else if k = 18 then 3 else if k = 17 then 4 else if k = 16 ∨ k = 21 ∨ k = 22 then 5 else 6
def binds (k : Int) : Bool := k == 21 || k == 22
abbrev Pt := Int × (Bool → List It)
def par (l : List It) : List It := Sg ⟨#[40]⟩ :: (l ++ [Sg ⟨#[41]⟩])
def wrap (least : Nat) (last : Bool) (p : Pt) : List It := if level p.1 < least ∨ (binds p.1 = true ∧ last = false) then par (p.2 true) else p.2 last
def tight (p : Pt) : List It := if p.1 = 4 ∨ p.1 = 5 then par (p.2 true) else p.2 true
def rowR (w : ByteArray) (other : Nat) (last : Bool) : List Pt → List It
  | [] => []
  | p :: ps => none :: Kw w :: none :: (wrap other (last && ps.isEmpty) p ++ rowR w other last ps)
def row (w : ByteArray) (first other : Nat) (last : Bool) : List Pt → List It
  | [] => []
  | p :: ps => wrap first false p ++ rowR w other last ps
def namesIt (ns : List ByteArray) : List It := ns.flatMap fun s => [Nm s, none]
def sgn (k : Int) : ByteArray := if k = 9 then ⟨#[60]⟩ else if k = 10 then ⟨#[60, 61]⟩ else if k = 11 then ⟨#[61]⟩ else if k = 12 then ⟨#[33, 61]⟩ else if k = 13 then ⟨#[62, 61]⟩ else ⟨#[62]⟩
def p0 : Pt := (0, fun _ => [])
def asm (k : Int) (nm : ByteArray) (ns : List ByteArray) (m : List Nat) (ps : List Pt) (last : Bool) : List It :=
  let a := ps.getD 0 p0
  let b := ps.getD 1 p0
  if k = 1 then [Nu m] else if k = 2 then [Nm nm] else if k = 3 then Sg ⟨#[45]⟩ :: tight a
  else if k = 4 then a.2 true ++ none :: Sg ⟨#[43]⟩ :: none :: tight b
  else if k = 5 then a.2 true ++ none :: Sg ⟨#[45]⟩ :: none :: tight b
  else if k = 6 then Nu m :: none :: Sg ⟨#[42]⟩ :: none :: tight a
  else if k = 7 then [Kw ⟨#[116, 114, 117, 101]⟩] else if k = 8 then [Kw ⟨#[102, 97, 108, 115, 101]⟩]
  else if k = 15 then Nu m :: none :: Kw ⟨#[100, 105, 118, 105, 100, 101, 115]⟩ :: none :: a.2 true
  else if k = 16 then Kw ⟨#[110, 111, 116]⟩ :: none :: wrap 5 last a
  else if k = 17 then row ⟨#[97, 110, 100]⟩ 5 5 last ps
  else if k = 18 then row ⟨#[111, 114]⟩ 4 4 last ps
  else if k = 19 then row ⟨#[105, 109, 112, 108, 105, 101, 115]⟩ 3 2 last ps
  else if k = 20 then row ⟨#[105, 102, 102]⟩ 1 2 last ps
  else if k = 21 then Kw ⟨#[115, 111, 109, 101]⟩ :: none :: (namesIt ns ++ Sg ⟨#[46]⟩ :: none :: wrap 1 last a)
  else if k = 22 then Kw ⟨#[97, 108, 108]⟩ :: none :: (namesIt ns ++ Sg ⟨#[46]⟩ :: none :: wrap 1 last a)
  else a.2 true ++ none :: Sg (sgn k) :: none :: b.2 true
mutual
def body : T → Bool → List It
  | .node k nm ns _ m ks => asm k nm ns m (parts ks)
def parts : List T → List Pt
  | [] => []
  | .node k nm ns ng m ks :: r => (k, body (.node k nm ns ng m ks)) :: parts r
end
def pt (t : T) : Pt := (t.k, body t)
theorem parts_cons (t : T) (r : List T) : parts (t :: r) = pt t :: parts r := by cases t; rfl
def key (w : Wd) : Nat × ByteArray × List Nat := (w.1, w.2.1, w.2.2.1)
def keys (l : List Wd) : List (Nat × ByteArray × List Nat) := l.map key
theorem toks_append (a b : List It) : toks (a ++ b) = toks a ++ toks b := by simp [toks]
theorem keys_append {l : List Wd} {a b : List (Nat × ByteArray × List Nat)} (h : keys l = a ++ b) : ∃ x y, l = x ++ y ∧ keys x = a ∧ keys y = b := by
  obtain ⟨x, y, h1, h2, h3⟩ := List.map_eq_append_iff.1 h
  exact ⟨x, y, h1, h2, h3⟩
theorem keys_cons {l : List Wd} {k : Nat} {s : ByteArray} {m : List Nat} {b : List (Nat × ByteArray × List Nat)} (h : keys l = (k, s, m) :: b) : ∃ p y, l = (k, s, m, p) :: y ∧ keys y = b := by
  cases l with
  | nil => cases h
  | cons w y =>
    obtain ⟨k', s', m', p⟩ := w
    simp only [keys, List.map_cons, key, List.cons.injEq, Prod.mk.injEq] at h
    obtain ⟨⟨rfl, rfl, rfl⟩, h⟩ := h
    exact ⟨p, y, rfl, h⟩
theorem keys_nil {l : List Wd} (h : keys l = []) : l = [] := List.map_eq_nil_iff.1 h
end P
end Go.Proofs.YthiadenmljbdaaaGreatDoor
end
