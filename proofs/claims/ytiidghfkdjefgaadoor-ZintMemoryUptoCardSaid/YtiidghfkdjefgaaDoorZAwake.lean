/-
  riddlelaw02.awake: true.
-/
import Derived.Test.YtiidghfkdjefgaaDoorZText
import Derived.Test.YtiidghfkdjefgaaDoorZDm
namespace Go.Proofs.YtiidghfkdjefgaaDoor
open Go.RowKit

/-- A variable that holds a number. -/
theorem var_new (w : World) (d : Bool) (A : Option Addr) (n c : Nat) : ∃ W : World, W = w.alloc (.cells #[.bool d, .slice A n c] 24) ∧ Pair W w.heap.size 24 (.bool d) (.slice A n c) ∧ Below w.heap.size w W :=
  ⟨_, rfl, Pair.new _ _ _ _, below_alloc1 _ _⟩
theorem var_new2 (w : World) (d : Bool) (A : Option Addr) (n c : Nat) (d' : Bool) (A' : Option Addr) (n' c' : Nat) : ∃ W : World, W = (w.alloc (.cells #[.bool d, .slice A n c] 24)).alloc (.cells #[.bool d', .slice A' n' c'] 24) ∧
    Pair W w.heap.size 24 (.bool d) (.slice A n c) ∧ Pair W (w.heap.size + 1) 24 (.bool d') (.slice A' n' c') ∧ Below w.heap.size w W := by
  obtain ⟨W, hW, h0, h1, hs, hb⟩ := enter2r w 24 (.bool d) (.slice A n c) (.bool d') (.slice A' n' c')
  exact ⟨W, hW, h0, h1, hb⟩
def awakeIn : ByteArray := ⟨#[45, 52, 50, 57, 52, 57, 54, 55, 50, 57, 54]⟩
def awakeOut : ByteArray := ⟨#[49, 50, 56, 56, 52, 57, 48, 49, 56, 56, 56]⟩
theorem awake_dig : zdig awakeIn.data.toList = [52, 50, 57, 52, 57, 54, 55, 50, 57, 54] := by decide
theorem awake_neg : zneg awakeIn.data.toList = true := by decide
theorem awake_digs : N.val [52, 50, 57, 52, 57, 54, 55, 50, 57, 54] = 4294967296 := by decide
theorem awake_ok : zok awakeIn.data.toList := by
  unfold zok
  rw [awake_dig, awake_neg, awake_digs]
  refine ⟨⟨by decide, ?_, by decide⟩, by decide⟩
  have h : ∀ c ∈ ([52, 50, 57, 52, 57, 54, 55, 50, 57, 54] : List UInt8), 48 ≤ c.toNat ∧ c.toNat ≤ 57 := by decide
  exact h
theorem awake_val : zval awakeIn.data.toList = -4294967296 := by
  unfold zval
  rw [awake_dig, awake_neg, awake_digs]
  rfl
theorem awake_outok : N.okTxt awakeOut.data.toList := by
  refine ⟨by decide, ?_, by decide⟩
  have h : ∀ c ∈ awakeOut.data.toList, 48 ≤ c.toNat ∧ c.toNat ≤ 57 := by decide
  exact h
theorem awake_txt : ztxt 12884901888 = awakeOut.data.toList := by
  have h : N.val awakeOut.data.toList = 12884901888 := by decide
  unfold ztxt
  rw [if_neg (by decide), show (12884901888 : Int).natAbs = 12884901888 from rfl, ← h, N.txt_val awake_outok]
set_option maxRecDepth 100000 in
set_option maxHeartbeats 4000000 in
theorem awake_l (w : World) : Calls Tryd.prog 12 #[] w fun e w' => e = .returned (.bool true) ∧ Below w.heap.size w w' := by
  go_enter Tryd.func12, Tryd.ntmps12
  go_wp2_with fail
  refine (of_i _ (-7) (by omega)).mono ?_
  rintro e w1 ⟨v1, rfl, h1, hb1⟩
  have hw := hb1
  go_wp2_with fail
  refine (of_i _ 2 (by omega)).mono ?_
  rintro e w2 ⟨v2, rfl, h2, hb2⟩
  replace h1 := h1.below hb2
  replace hw := below_on hw hb2
  go_wp2_with fail
  refine (dm_i h1.iv h2.iv (by omega) (by omega) (by omega)).mono ?_
  rintro e w3 ⟨q, r, rfl, ⟨hq, hr⟩, hb3⟩
  rw [show (-7 : Int).fdiv 2 = -4 by decide] at hq
  rw [show (-7 : Int).fmod 2 = 1 by decide] at hr
  replace hw := below_on hw hb3
  obtain ⟨dq, Aq, nq, kq, rfl, HDQ, hgq⟩ := hq.form
  obtain ⟨dr, Ar, nr, kr, rfl, HDR, hgr⟩ := hr.form
  clear h1 h2 hb1 hb2 hb3 hq hr
  go_wp2_with fail
  obtain ⟨W4, hW4, p1, p2, hb4⟩ := var_new2 w3 dq Aq nq kq dr Ar nr kr
  rw [← hW4]
  obtain ⟨b1, hb1⟩ : ∃ b, b = w3.heap.size := ⟨_, rfl⟩
  rw [← hb1] at p1 p2 ⊢
  replace hgq := hgq.below hb4
  replace hgr := hgr.below hb4
  replace hw := below_on hw hb4
  clear hW4 hb4 hb1
  refine (parse_i W4 awakeIn (by decide) awake_ok).mono ?_
  rintro e w5 ⟨v5, rfl, h5, hb5⟩
  rw [awake_val] at h5
  obtain ⟨d5, A5, n5, k5, rfl, HD5, hg5⟩ := h5.form
  replace hgq := hgq.below hb5
  replace hgr := hgr.below hb5
  replace p1 := p1.below hb5
  replace p2 := p2.below hb5
  replace hw := below_on hw hb5
  clear hb5 h5
  go_wp2_with fail
  obtain ⟨W6, hW6, p4, hb6⟩ := var_new w5 d5 A5 n5 k5
  rw [← hW6]
  obtain ⟨b2, hb2⟩ : ∃ b, b = b1 + 1 := ⟨_, rfl⟩
  obtain ⟨b4, hb4⟩ : ∃ b, b = w5.heap.size := ⟨_, rfl⟩
  rw [← hb2] at p2 ⊢
  rw [← hb4] at p4 ⊢
  replace hgq := hgq.below hb6
  replace hgr := hgr.below hb6
  replace hg5 := hg5.below hb6
  replace p1 := p1.below hb6
  replace p2 := p2.below hb6
  replace hw := below_on hw hb6
  have hS0 : ∀ w', Below W6.heap.size W6 w' → (fun w' => ((w'.cell? ⟨b1, 0, none⟩ = some (.bool dq) ∧ w'.cell? ⟨b1, 1, none⟩ = some (.slice Aq nq kq)) ∧ (w'.cell? ⟨b2, 0, none⟩ = some (.bool dr) ∧ w'.cell? ⟨b2, 1, none⟩ = some (.slice Ar nr kr)) ∧ (w'.cell? ⟨b4, 0, none⟩ = some (.bool d5) ∧ w'.cell? ⟨b4, 1, none⟩ = some (.slice A5 n5 k5))) ∧ Below W6.heap.size W6 w') w' := fun w' h => ⟨⟨⟨(p1.below h).facts.2.2.1, (p1.below h).facts.2.2.2⟩, ⟨(p2.below h).facts.2.2.1, (p2.below h).facts.2.2.2⟩, ⟨(p4.below h).facts.2.2.1, (p4.below h).facts.2.2.2⟩⟩, h⟩
  have HS0 := Lib.hid hS0
  have h5 := ICan.mk HD5.out hg5
  have hq := ICan.mk HDQ.out hgq
  have hr := ICan.mk HDR.out hgr
  clear hS0 hW6 hb6 hb2 hb4 p1 p2 p4 HD5 HDQ HDR hg5 hgq hgr
  go_region_held3 (fun w' => ((w'.cell? ⟨b1, 0, none⟩ = some (.bool dq) ∧ w'.cell? ⟨b1, 1, none⟩ = some (.slice Aq nq kq)) ∧ (w'.cell? ⟨b2, 0, none⟩ = some (.bool dr) ∧ w'.cell? ⟨b2, 1, none⟩ = some (.slice Ar nr kr)) ∧ (w'.cell? ⟨b4, 0, none⟩ = some (.bool d5) ∧ w'.cell? ⟨b4, 1, none⟩ = some (.slice A5 n5 k5))) ∧ Below W6.heap.size W6 w')
    (first | assumption | exact HS0.out _ (by assumption) | exact HS0.out _ (Below.drew (by assumption)) | exact HS0.out _ (Below.refl _ _).drew)
    (first
      | (go_at_call 37; refine (of_i _ (-3) (by omega)).mono ?_; rintro e w7 ⟨t1, rfl, ht1, hb⟩; have hS := below_on (s_below (by assumption)) hb; clear hb)
      | (go_at_call 25; refine (mul_i ht1.iv (h5.below hS).iv (by decide)).mono ?_; rintro e w8 ⟨t2, rfl, ht2, hb⟩; replace hS := below_on hS hb; clear hb ht1)
      | (go_at_call 18; refine (text_i ht2.iv (by decide)).mono ?_; rintro e w9 ⟨rfl, hb⟩; replace hS := below_on hS hb; clear hb ht2))
  rw [awake_txt]
  have hk : (⟨awakeOut.data.toList.toArray⟩ : ByteArray) = awakeOut := rfl
  rw [hk]
  have hk2 : awakeOut.toList = [49, 50, 56, 56, 52, 57, 48, 49, 56, 56, 56] := by rw [ByteArray.toList_eq]; rfl
  clear hk
  obtain ⟨⟨c1, c2, c4⟩, _⟩ := HS0.out _ hS
  go_wp2_with fail
  go_region_held3 (fun w' => ((w'.cell? ⟨b1, 0, none⟩ = some (.bool dq) ∧ w'.cell? ⟨b1, 1, none⟩ = some (.slice Aq nq kq)) ∧ (w'.cell? ⟨b2, 0, none⟩ = some (.bool dr) ∧ w'.cell? ⟨b2, 1, none⟩ = some (.slice Ar nr kr)) ∧ (w'.cell? ⟨b4, 0, none⟩ = some (.bool d5) ∧ w'.cell? ⟨b4, 1, none⟩ = some (.slice A5 n5 k5))) ∧ Below W6.heap.size W6 w')
    (first | assumption | exact HS0.out _ (by assumption) | exact HS0.out _ (Below.drew (by assumption)) | exact HS0.out _ (Below.refl _ _).drew)
    (first
      | (go_at_call 42; (try clear hS); refine (of_r _ _ (by omega)).mono ?_; rintro e wn ⟨t1, rfl, ht1, hb⟩; have hS := below_on (s_below (by assumption)) hb; clear hb)
      | (go_at_call 15; refine (is_l (hq.below hS) ht1.iv (by decide) rfl).mono ?_; rintro e wn ⟨rfl, hb⟩; replace hS := below_on hS hb; clear hb ht1)
      | (go_at_call 15; refine (is_l (hr.below hS) ht1.iv (by decide) rfl).mono ?_; rintro e wn ⟨rfl, hb⟩; replace hS := below_on hS hb; clear hb ht1))
  all_goals
    go_wp2_with fail
    go_ret
    exact ⟨rfl, below_on hw hS⟩
end Go.Proofs.YtiidghfkdjefgaaDoor
