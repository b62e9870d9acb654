/-
  Names and numbers of a tree, by both; riddleref04.none: contracts.
-/
import Derived.Test.YtmncamnlmpajbaaSKind
namespace Go.Proofs.Ytmncamnlmpajbaa
open Go.RowKit

def nameB (s : ByteArray) : Bool := X.name s.data.toList
def namesB (ns : List ByteArray) : Bool := ns.all nameB
theorem namesB_snoc (l : List ByteArray) (s : ByteArray) : namesB (l ++ [s]) = (namesB l && nameB s) := by simp [namesB]
theorem namesB_get : ∀ (l : List ByteArray) (i : Nat), i < l.length → nameB (l.getD i ⟨#[]⟩) = false → namesB l = false
  | [], i, h, _ => absurd h (by simp)
  | t :: r, 0, _, h => by simp at h; simp [namesB, h]
  | t :: r, i + 1, h, h2 => by
    have := namesB_get r i (by simpa using h) (by simpa using h2)
    simp [namesB] at this ⊢
    intro _
    exact this
theorem StrL.below {w w' : World} {R : Nat → Prop} {A : Option Addr} {c : Nat} {ns : List ByteArray} (h : StrL w R A c ns) (hb : Below w.heap.size w w') : StrL w' R A c ns := h.keep (fun _ _ _ hp => keep_cell hp hb) (fun _ h => h)
theorem SlR.below {w w' : World} {R : Nat → Prop} {A : Option Addr} {c : Nat} {l : List Nat} (h : SlR w R A c l) (hb : Below w.heap.size w w') : SlR w' R A c l := h.keep (fun _ _ _ hp => keep_cell hp hb) (fun _ h => h)
set_option maxRecDepth 100000 in
set_option maxHeartbeats 1600000 in
theorem names_r (w : World) (R : Nat → Prop) (A : Option Addr) (c : Nat) (ns : List ByteArray) (h : StrL w R A c ns) (hb : sbulk ns ≤ 1048576) :
    Calls Try.prog 78 #[.slice A ns.length c] w fun e w' => e = .returned (.bool (namesB ns && decide (0 < ns.length))) ∧ w' = w := by
  have hl := sbulk_len ns
  obtain ⟨hcap, hc⟩ := h
  obtain ⟨n, hn⟩ : ∃ n, ns.length = n := ⟨_, rfl⟩
  rw [hn] at hcap hc hl ⊢
  have HN := Lib.hid hn
  have HK := Lib.hid hc
  clear hn hc
  go_enter Try.func78, Try.ntmps78
  go_wp2_with fail
  go_loopg [3] (n + 1) (fun gk v3 wr => ∃ i : Nat, gk + i = n + 1 ∧ i ≤ n ∧ v3 = .int .i64 (i : Nat) ∧ Hid (namesB (ns.take i) = true) ∧ wr = w)
  case atStart => exact ⟨0, by omega, Nat.zero_le _, rfl, Lib.hid rfl, rfl⟩
  case round =>
    obtain ⟨i, hi, hin, rfl, HS, rfl⟩ := hrel
    by_cases hlt : i < n
    · obtain ⟨b, o, rfl, _, hk⟩ := HK.out (by omega)
      have e0 := hk i hlt
      have hsz := sbulk_get ns i (by rw [HN.out]; exact hlt)
      have hget := namesB_get ns i (by rw [HN.out]; exact hlt)
      have hsn := namesB_snoc (ns.take i) (ns.getD i ⟨#[]⟩)
      rw [← take_snoc _ _ _ (by rw [HN.out]; exact hlt)] at hsn
      obtain ⟨s, hs⟩ : ∃ s, ns.getD i ⟨#[]⟩ = s := ⟨_, rfl⟩
      rw [hs] at e0 hsz hget hsn
      have HGET := Lib.hid hget
      have HSN := Lib.hid hsn
      clear hk hs hget hsn
      have hi0 : (0 : Int) ≤ i := by omega
      have hi1 : (i : Int) < n := by omega
      have hi2 : decide (i < n) = true := decide_eq_true hlt
      obtain ⟨r, hr⟩ : ∃ r, nameB s = r := ⟨_, rfl⟩
      have HR := Lib.hid hr
      clear hr
      cases r
      · go_wp2_with (go_at_call 40; refine (isname_r _ s (by omega)).mono ?_; rw [show X.name s.data.toList = false from HR.out]; rintro e w2 ⟨rfl, rfl⟩)
        go_ret
        exact ⟨by rw [HGET.out HR.out]; rfl, rfl⟩
      · go_wp2_with (go_at_call 40; refine (isname_r _ s (by omega)).mono ?_; rw [show X.name s.data.toList = true from HR.out]; rintro e w2 ⟨rfl, rfl⟩)
        go_roundg (n - i)
        case measure => omega
        case rel => exact ⟨i + 1, by omega, by omega, by go_num, Lib.hid (by rw [HSN.out, HS.out, HR.out]; rfl), rfl⟩
    · obtain rfl : i = n := by omega
      have htk : ns.take i = ns := by rw [← HN.out, List.take_length]
      have hf := HS.out
      rw [htk] at hf
      have HF := Lib.hid hf
      clear htk hf
      go_wp2_with fail
      go_ret
      exact ⟨by rw [HF.out]; simp, rfl⟩
set_option maxRecDepth 100000 in
theorem made1_x (w : World) (s : ByteArray) (hs : s.size ≤ 1048576) :
    Calls Try.prog 71 #[.string s] w fun e w' => e = .returned (.bool (!nameB s)) ∧ w' = w := by
  go_enter Try.func71, Try.ntmps71
  go_wp2_with (go_at_call 34; refine (isname_x _ s (by omega)).mono ?_; rintro e w2 ⟨rfl, rfl⟩)
  go_ret
  exact ⟨rfl, rfl⟩
set_option maxRecDepth 100000 in
set_option maxHeartbeats 1600000 in
theorem index_names (w : World) (R : Nat → Prop) (A : Option Addr) (c : Nat) (ns : List ByteArray) (h : StrL w R A c ns) (hb : sbulk ns ≤ 1048576) :
    Calls Try.prog 94 #[.slice A ns.length c, .func (.func 71) #[] #[]] w fun e w' => ∃ z : Int, e = .returned (.int .i64 z) ∧ decide (0 ≤ z) = !namesB ns ∧ w' = w := by
  have hl := sbulk_len ns
  obtain ⟨hcap, hc⟩ := h
  obtain ⟨n, hn⟩ : ∃ n, ns.length = n := ⟨_, rfl⟩
  rw [hn] at hcap hc hl ⊢
  have HN := Lib.hid hn
  have HK := Lib.hid hc
  clear hn hc
  go_enter Try.func94, Try.ntmps94
  go_wp2_with fail
  go_loopg [8] (n + 1) (fun gk v8 wr => ∃ i : Nat, gk + i = n + 1 ∧ i ≤ n ∧ v8 = .int .i64 (i : Nat) ∧ Hid (namesB (ns.take i) = true) ∧ wr = w)
  case atStart => exact ⟨0, by omega, Nat.zero_le _, rfl, Lib.hid rfl, rfl⟩
  case round =>
    obtain ⟨i, hi, hin, rfl, HS, rfl⟩ := hrel
    by_cases hlt : i < n
    · obtain ⟨b, o, rfl, _, hk⟩ := HK.out (by omega)
      have e0 := hk i hlt
      have hsz := sbulk_get ns i (by rw [HN.out]; exact hlt)
      have hget := namesB_get ns i (by rw [HN.out]; exact hlt)
      have hsn := namesB_snoc (ns.take i) (ns.getD i ⟨#[]⟩)
      rw [← take_snoc _ _ _ (by rw [HN.out]; exact hlt)] at hsn
      obtain ⟨s, hs⟩ : ∃ s, ns.getD i ⟨#[]⟩ = s := ⟨_, rfl⟩
      rw [hs] at e0 hsz hget hsn
      have HGET := Lib.hid hget
      have HSN := Lib.hid hsn
      clear hk hs hget hsn
      have hi0 : (0 : Int) ≤ i := by omega
      have hi1 : (i : Int) < n := by omega
      obtain ⟨r, hr⟩ : ∃ r, nameB s = r := ⟨_, rfl⟩
      have HR := Lib.hid hr
      clear hr
      cases r
      · go_wp2_with (go_at_call 71; refine (made1_x _ s (by omega)).mono ?_; rw [HR.out]; rintro e w2 ⟨rfl, rfl⟩)
        go_ret
        exact ⟨_, rfl, by rw [HGET.out HR.out]; exact decide_eq_true hi0, rfl⟩
      · go_wp2_with (go_at_call 71; refine (made1_x _ s (by omega)).mono ?_; rw [HR.out]; rintro e w2 ⟨rfl, rfl⟩)
        go_roundg (n - i)
        case measure => omega
        case rel => exact ⟨i + 1, by omega, by omega, by go_num, Lib.hid (by rw [HSN.out, HS.out, HR.out]; rfl), rfl⟩
    · obtain rfl : i = n := by omega
      have htk : ns.take i = ns := by rw [← HN.out, List.take_length]
      have hf := HS.out
      rw [htk] at hf
      have HF := Lib.hid hf
      clear htk hf
      go_wp2_with fail
      go_ret
      exact ⟨_, rfl, by rw [HF.out]; rfl, rfl⟩
set_option maxRecDepth 100000 in
theorem contains_names (w : World) (R : Nat → Prop) (A : Option Addr) (c : Nat) (ns : List ByteArray) (h : StrL w R A c ns) (hb : sbulk ns ≤ 1048576) :
    Calls Try.prog 70 #[.slice A ns.length c, .func (.func 71) #[] #[]] w fun e w' => e = .returned (.bool (!namesB ns)) ∧ w' = w := by
  have H := Lib.hid (index_names w R A c ns h hb)
  obtain ⟨n, hn⟩ : ∃ n, ns.length = n := ⟨_, rfl⟩
  rw [hn] at H ⊢
  clear hb h hn
  go_enter Try.func70, Try.ntmps70
  go_wp2_with (go_at_call 94; refine H.out.mono ?_; rintro e w2 ⟨z, rfl, hz, rfl⟩)
  go_ret
  exact ⟨by rw [← hz]; simp, rfl⟩
/-- A number as it should stand. -/
def standsB (ng : Bool) (mg : List Nat) : Bool := !ng && (mg.length == 0 || N.dg mg (mg.length - 1) != 0)
set_option maxRecDepth 100000 in
set_option maxHeartbeats 1600000 in
theorem stands_r (w : World) (R : Nat → Prop) (ng : Bool) (A : Option Addr) (c : Nat) (mg : List Nat) (h : SlR w R A c mg) (hl : mg.length ≤ 1048576) :
    Calls Try.prog 79 #[.agg #[.bool ng, .slice A mg.length c]] w fun e w' => e = .returned (.bool (standsB ng mg)) ∧ Below w.heap.size w w' := by
  obtain ⟨G, hG⟩ : ∃ G, standsB ng mg = G := ⟨_, rfl⟩
  rw [hG]
  unfold standsB at hG
  obtain ⟨n, hn⟩ : ∃ n, mg.length = n := ⟨_, rfl⟩
  have hs := h.1
  rw [hn] at hG hs hl ⊢
  have hbw := below_alloc1 w (.cells #[.bool ng, .slice A n c] 32)
  have HG := Lib.hid hG
  clear hG h
  cases ng
  · by_cases h0 : n = 0
    · subst h0
      clear hn hs
      go_enter Try.func79, Try.ntmps79
      go_wp2_with fail
      go_ret
      exact ⟨by rw [← HG.out]; rfl, hbw⟩
    · have h1 : ((n : Int) == 0) = false := by simp; omega
      obtain ⟨b, o, rfl, hc⟩ := (hs.below hbw).cells (by omega)
      have hck := hc (n - 1) (by omega)
      have hi : (0 : Int) ≤ (n : Int) - 1 := by omega
      have hi2 : (n : Int) - 1 < n := by omega
      have hi3 : ((n : Int) - 1).toNat = n - 1 := by omega
      have hw1 : IntKind.i64.wrap ((n : Int) - 1) = (n : Int) - 1 := by simp [IntKind.wrap, IntKind.bits, IntKind.signed]; omega
      obtain ⟨d, hd⟩ : ∃ d, N.dg mg (n - 1) = d := ⟨_, rfl⟩
      rw [hd] at hck
      have HD := Lib.hid hd
      clear hd hc hs hn
      by_cases hd0 : d = 0
      · subst hd0
        go_enter Try.func79, Try.ntmps79
        go_wp2_with fail
        go_ret
        exact ⟨by rw [← HG.out, HD.out]; simp [h0], hbw⟩
      · have ht : ((d : Int) != 0) = true := by simp [hd0]
        go_enter Try.func79, Try.ntmps79
        go_wp2_with fail
        go_ret
        exact ⟨by rw [← HG.out, HD.out]; simp [hd0], hbw⟩
  · clear hs hn
    go_enter Try.func79, Try.ntmps79
    go_wp2_with fail
    go_ret
    exact ⟨by rw [← HG.out]; rfl, hbw⟩
end Go.Proofs.Ytmncamnlmpajbaa
