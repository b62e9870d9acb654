/-
  l: the parts SyntaxLooks.
-/
import Derived.Test.YthiadenmljbdaaaGreatDoorB34l
import Derived.Test.YthiadenmljbdaaaGreatDoorB33l
import Derived.Test.YthiadenmljbdaaaGreatDoorB28l
import Derived.Test.YthiadenmljbdaaaGreatDoorB23l
import Derived.Test.YthiadenmljbdaaaGreatDoorB35l
import Derived.Test.YthiadenmljbdaaaGreatDoorB7l
namespace Go.Proofs.YthiadenmljbdaaaGreatDoor
section
open Go.RowKit
open Go.Shelf
set_option maxRecDepth 100000 in
set_option maxHeartbeats 40000000 in
theorem walkSyntaxLooks (ta tb : T) (w : World) (R R' : Nat → Prop) (v v' : Value) (hNa : ta.bulk ≤ 1048576) (hNb : tb.bulk ≤ 1048576) (h : T.In w R ta v) (h' : T.In w R' tb v') :
    Calls Tryz.prog 5 #[v, v'] w fun e w' => e = .returned (.bool true) ∧ Below w.heap.size w w' := by
  have hIa := in_lt ta _ h
  have hIb := in_lt tb _ h'
  obtain ⟨A1, c1, A2, c2, A3, c3, rfl, -⟩ := h.form
  obtain ⟨B1, d1, B2, d2, B3, d3, rfl, -⟩ := h'.form
  obtain ⟨ka, hka⟩ : ∃ x, ta.k = x := ⟨_, rfl⟩
  obtain ⟨na, hna⟩ : ∃ x, ta.nm = x := ⟨_, rfl⟩
  obtain ⟨sa, hsa⟩ : ∃ x, ta.ng = x := ⟨_, rfl⟩
  obtain ⟨a1, ha1⟩ : ∃ x, ta.ns.length = x := ⟨_, rfl⟩
  obtain ⟨a2, ha2⟩ : ∃ x, ta.mg.length = x := ⟨_, rfl⟩
  obtain ⟨a3, ha3⟩ : ∃ x, ta.ks.length = x := ⟨_, rfl⟩
  obtain ⟨kb, hkb⟩ : ∃ x, tb.k = x := ⟨_, rfl⟩
  obtain ⟨nb, hnb⟩ : ∃ x, tb.nm = x := ⟨_, rfl⟩
  obtain ⟨sb, hsb⟩ : ∃ x, tb.ng = x := ⟨_, rfl⟩
  obtain ⟨b1, hb1⟩ : ∃ x, tb.ns.length = x := ⟨_, rfl⟩
  obtain ⟨b2, hb2⟩ : ∃ x, tb.mg.length = x := ⟨_, rfl⟩
  obtain ⟨b3, hb3⟩ : ∃ x, tb.ks.length = x := ⟨_, rfl⟩
  obtain ⟨kp, hkp⟩ : ∃ x, ta.cp.k = x := ⟨_, rfl⟩
  obtain ⟨np, hnp⟩ : ∃ x, ta.cp.nm = x := ⟨_, rfl⟩
  obtain ⟨sp, hsp⟩ : ∃ x, ta.cp.ng = x := ⟨_, rfl⟩
  obtain ⟨p1, hp1⟩ : ∃ x, ta.cp.ns.length = x := ⟨_, rfl⟩
  obtain ⟨p2, hp2⟩ : ∃ x, ta.cp.mg.length = x := ⟨_, rfl⟩
  obtain ⟨p3, hp3⟩ : ∃ x, ta.cp.ks.length = x := ⟨_, rfl⟩
  have HEP := Lib.hid (And.intro hkp (And.intro hnp (And.intro hsp (And.intro hp1 (And.intro hp2 hp3)))))
  have hNp : ta.cp.bulk ≤ 1048576 := Nat.le_trans hIa.cp_bulk hNa
  have HCB := Lib.hid hIa.cp_bulk
  clear hkp hnp hsp hp1 hp2 hp3
  have HEA := Lib.hid (And.intro hka (And.intro hna (And.intro hsa (And.intro ha1 (And.intro ha2 ha3)))))
  have HEB := Lib.hid (And.intro hkb (And.intro hnb (And.intro hsb (And.intro hb1 (And.intro hb2 hb3)))))
  rw [hka, hna, hsa, ha1, ha2, ha3] at hIa ⊢
  rw [hkb, hnb, hsb, hb1, hb2, hb3] at hIb ⊢
  clear h h' hka hna hsa ha1 ha2 ha3 hkb hnb hsb hb1 hb2 hb3
  unfold tv at hIa hIb ⊢
  obtain ⟨W0, hW0, pa, hbx⟩ := made_blk w #[.int .i64 ka, .string na, .slice A1 a1 c1, .bool sa, .slice A2 a2 c2, .slice A3 a3 c3] 28
  have hsz0 : W0.heap.size = w.heap.size + 1 := by rw [hW0]; simp
  obtain ⟨Ba, hBa⟩ : ∃ g, g = w.heap.size := ⟨_, rfl⟩
  rw [← hBa] at pa hsz0
  obtain ⟨W, hW, pb, hby⟩ := made_blk W0 #[.int .i64 kb, .string nb, .slice B1 b1 d1, .bool sb, .slice B2 b2 d2, .slice B3 b3 d3] 28
  rw [hsz0] at pb
  have pa := pa.below hby
  have hbW := below_on hbx hby
  have HIA := Lib.hid (hIa.below hbW)
  have HIB := Lib.hid (hIb.below hbW)
  have HBW := Lib.hid hbW
  have HBa := Lib.hid hBa
  go_enter Tryz.func5, Tryz.ntmps5
  go_upto_region 1 with (fail)
  rw [← hW0, ← hBa, ← hW]
  obtain ⟨Bb, hBb⟩ : ∃ g, g = Ba + 1 := ⟨_, rfl⟩
  rw [← hBb] at pb ⊢
  have HBb := Lib.hid hBb
  clear hW0 hW hBa hBb hsz0 hbx hby hIa hIb hbW
  obtain ⟨x0, x1, x2, x3, x4, x5⟩ := pa.six
  obtain ⟨y0, y1, y2, y3, y4, y5⟩ := pb.six
  go_upto_region 2 with (go_at_call 16; refine (own_t 1048576 ta _ _ _ hNa (Nat.le_refl _) HIA.out).mono ?_; rintro e w1 ⟨c, rfl, hL1, hb1⟩; obtain ⟨gn, gm, gk, rs, hc, -⟩ := hL1.open; rw [HEA.out.1, HEA.out.2.1, HEA.out.2.2.1, HEA.out.2.2.2.1, HEA.out.2.2.2.2.1, HEA.out.2.2.2.2.2] at hc; subst hc)
  obtain ⟨V1, hV1, px, hbV1⟩ := made_blk w1 #[.int .i64 ka, .string na, .slice (some ⟨gn, 0, none⟩) a1 (a1 + 2), .bool sa, .slice (some ⟨gm, 0, none⟩) a2 (a2 + 2), .slice (some ⟨gk, 0, none⟩) a3 (a3 + 1)] 28
  obtain ⟨Bx, hBx⟩ : ∃ g, g = w1.heap.size := ⟨_, rfl⟩
  rw [← hV1, ← hBx]
  rw [← hBx] at px
  have hbA := below_on hb1 hbV1
  have HLX := Lib.hid (hL1.below (Nat.le_refl _) hbV1)
  have HIX := Lib.hid hbV1.size
  have paA := pa.below hbA
  have pbA := pb.below hbA
  have HIA1 := Lib.hid (HIA.out.below hbA)
  have HIB1 := Lib.hid (HIB.out.below hbA)
  have HBA := Lib.hid (below_on HBW.out hbA)
  have HX0 := Lib.hid hb1.size
  have HBx := Lib.hid hBx
  clear hBx hL1 hb1 hbV1 hbA hV1 pa pb x0 x1 x2 x3 x4 x5 y0 y1 y2 y3 y4 y5
  obtain ⟨y0, y1, y2, y3, y4, y5⟩ := pbA.six
  go_upto_region 3 with (go_at_call 16; refine (own_t 1048576 tb _ _ _ hNb (Nat.le_refl _) HIB1.out).mono ?_; rintro e w2 ⟨c, rfl, hL2, hb2⟩; obtain ⟨hn, hm, hk, rs', hc, -⟩ := hL2.open; rw [HEB.out.1, HEB.out.2.1, HEB.out.2.2.1, HEB.out.2.2.2.1, HEB.out.2.2.2.2.1, HEB.out.2.2.2.2.2] at hc; subst hc)
  obtain ⟨V2, hV2, py, hbV2⟩ := made_blk w2 #[.int .i64 kb, .string nb, .slice (some ⟨hn, 0, none⟩) b1 (b1 + 2), .bool sb, .slice (some ⟨hm, 0, none⟩) b2 (b2 + 2), .slice (some ⟨hk, 0, none⟩) b3 (b3 + 1)] 28
  obtain ⟨By, hBy⟩ : ∃ g, g = w2.heap.size := ⟨_, rfl⟩
  rw [← hV2, ← hBy]
  rw [← hBy] at py
  have hbB := below_on hb2 hbV2
  have HLY := Lib.hid (hL2.below (Nat.le_refl _) hbV2)
  have HIY := Lib.hid hbV2.size
  have HLX2 := Lib.hid (HLX.out.below HIX.out hbB)
  have HIX2 : Hid (w1.heap.size ≤ V2.heap.size) := Lib.hid (Nat.le_trans HIX.out hbB.size)
  have pa2 := paA.below hbB
  have pb2 := pbA.below hbB
  have px2 := px.below hbB
  have HIA2 := Lib.hid (HIA1.out.below hbB)
  have HIB2 := Lib.hid (HIB1.out.below hbB)
  have HBB := Lib.hid (below_on HBA.out hbB)
  have HBy := Lib.hid hBy
  clear hBy hL2 hb2 hbV2 hbB hV2 paA pbA px y0 y1 y2 y3 y4 y5 HLX HIX HIA1 HIB1 HIA HIB
  have HPT : Hid (Blk V2 Bx 28 #[.int .i64 ka, .string na, .slice (some ⟨gn, 0, none⟩) a1 (a1 + 2), .bool sa, .slice (some ⟨gm, 0, none⟩) a2 (a2 + 2), .slice (some ⟨gk, 0, none⟩) a3 (a3 + 1)] ∧ Blk V2 By 28 #[.int .i64 kb, .string nb, .slice (some ⟨hn, 0, none⟩) b1 (b1 + 2), .bool sb, .slice (some ⟨hm, 0, none⟩) b2 (b2 + 2), .slice (some ⟨hk, 0, none⟩) b3 (b3 + 1)] ∧ Blk V2 Ba 28 #[.int .i64 ka, .string na, .slice A1 a1 c1, .bool sa, .slice A2 a2 c2, .slice A3 a3 c3] ∧ Blk V2 Bb 28 #[.int .i64 kb, .string nb, .slice B1 b1 d1, .bool sb, .slice B2 b2 d2, .slice B3 b3 d3]) := Lib.hid ⟨px2, py, pa2, pb2⟩
  have HH := Lib.hid (fun (w' : World) (hb : Below V2.heap.size V2 w') => by
   obtain ⟨m0, m1, m2, m3, m4, m5⟩ := (px2.below hb).six
   obtain ⟨n0, n1, n2, n3, n4, n5⟩ := (py.below hb).six
   obtain ⟨p0, p1, p2, p3, p4, p5⟩ := (pa2.below hb).six
   obtain ⟨r0, r1, r2, r3, r4, r5⟩ := (pb2.below hb).six
   exact And.intro m0 (And.intro m1 (And.intro m2 (And.intro m3 (And.intro m4 (And.intro m5 (And.intro n0 (And.intro n1 (And.intro n2 (And.intro n3 (And.intro n4 (And.intro n5 (And.intro p0 (And.intro p1 (And.intro p2 (And.intro p3 (And.intro p4 (And.intro p5 (And.intro r0 (And.intro r1 (And.intro r2 (And.intro r3 (And.intro r4 r5)))))))))))))))))))))))
  obtain ⟨q1, hq1⟩ : ∃ q, ta.sm tb = q := ⟨_, rfl⟩
  have hXI := fun (w' : World) (hb : Below V2.heap.size V2 w') => T.Lent.In (R := fun _ => True) (fun _ _ _ => trivial) _ _ (HLX2.out.below HIX2.out hb)
  have hYI := fun (w' : World) (hb : Below V2.heap.size V2 w') => T.Lent.In (R := fun _ => True) (fun _ _ _ => trivial) _ _ (HLY.out.below HIY.out hb)
  have HSM := Lib.hid (fun (w' : World) (hb : Below V2.heap.size V2 w') => by have h := same_w 1048576 ta tb w' _ _ _ _ hNa hNb (Nat.le_refl _) (hXI w' hb) (hYI w' hb); rw [hq1] at h; exact h)
  have HSS := Lib.hid (fun (w' : World) (hb : Below V2.heap.size V2 w') => by have h := same_w 1048576 ta ta w' _ _ _ _ hNa hNa (Nat.le_refl _) (hXI w' hb) (hXI w' hb); rw [T.sm_self] at h; exact h)
  have HRS := Lib.hid (fun (w' : World) (hb : Below V2.heap.size V2 w') => by have h := rsame_t 1048576 ta tb w' _ _ _ _ hNa hNb (Nat.le_refl _) (HIA2.out.below hb) (HIB2.out.below hb); rw [hq1] at h; exact h)
  have HSZ := Lib.hid (fun (w' : World) (hb : Below V2.heap.size V2 w') => size_t 1048576 ta w' _ _ hNa (Nat.le_refl _) (hXI w' hb))
  have HRZ := Lib.hid (fun (w' : World) (hb : Below V2.heap.size V2 w') => rSize_t ta w' _ _ hNa (HIA2.out.below hb))
  obtain ⟨sz, hsz⟩ : ∃ s, min ta.size 3001 = s := ⟨_, rfl⟩
  rw [hsz] at HSZ HRZ
  have hVD : Below V2.heap.size V2 V2.drew := (Below.refl _ _).drew
  clear hXI hYI hq1 hsz px2 py pa2 pb2
  refine wp_region_held_drew (S := fun w' => w'.cell? ⟨Bx, 0, none⟩ = some (.int .i64 ka) ∧ w'.cell? ⟨Bx, 1, none⟩ = some (.string na) ∧ w'.cell? ⟨Bx, 2, none⟩ = some (.slice (some ⟨gn, 0, none⟩) a1 (a1 + 2)) ∧ w'.cell? ⟨Bx, 3, none⟩ = some (.bool sa) ∧ w'.cell? ⟨Bx, 4, none⟩ = some (.slice (some ⟨gm, 0, none⟩) a2 (a2 + 2)) ∧ w'.cell? ⟨Bx, 5, none⟩ = some (.slice (some ⟨gk, 0, none⟩) a3 (a3 + 1)) ∧ w'.cell? ⟨By, 0, none⟩ = some (.int .i64 kb) ∧ w'.cell? ⟨By, 1, none⟩ = some (.string nb) ∧ w'.cell? ⟨By, 2, none⟩ = some (.slice (some ⟨hn, 0, none⟩) b1 (b1 + 2)) ∧ w'.cell? ⟨By, 3, none⟩ = some (.bool sb) ∧ w'.cell? ⟨By, 4, none⟩ = some (.slice (some ⟨hm, 0, none⟩) b2 (b2 + 2)) ∧ w'.cell? ⟨By, 5, none⟩ = some (.slice (some ⟨hk, 0, none⟩) b3 (b3 + 1)) ∧ w'.cell? ⟨Ba, 0, none⟩ = some (.int .i64 ka) ∧ w'.cell? ⟨Ba, 1, none⟩ = some (.string na) ∧ w'.cell? ⟨Ba, 2, none⟩ = some (.slice A1 a1 c1) ∧ w'.cell? ⟨Ba, 3, none⟩ = some (.bool sa) ∧ w'.cell? ⟨Ba, 4, none⟩ = some (.slice A2 a2 c2) ∧ w'.cell? ⟨Ba, 5, none⟩ = some (.slice A3 a3 c3) ∧ w'.cell? ⟨Bb, 0, none⟩ = some (.int .i64 kb) ∧ w'.cell? ⟨Bb, 1, none⟩ = some (.string nb) ∧ w'.cell? ⟨Bb, 2, none⟩ = some (.slice B1 b1 d1) ∧ w'.cell? ⟨Bb, 3, none⟩ = some (.bool sb) ∧ w'.cell? ⟨Bb, 4, none⟩ = some (.slice B2 b2 d2) ∧ w'.cell? ⟨Bb, 5, none⟩ = some (.slice B3 b3 d3)) (by kernel_rfl) (by exact HH.out _ hVD) (fun hHeld => ?_)
  refine take_at 0 (by kernel_rfl) (by kernel_rfl) (by kernel_rfl) (fun _ _ d _ _ h => by cases d <;> exact h) ⟨_, rfl⟩ (by assumption) (fun o ho => ?_)
  simp only [zg1, zg3, zg4] at ho
  subst ho
  refine ⟨?_, ⟨by rfl, ?_⟩, ?_⟩
  rotate_left
  · intro w hSw
    (try dsimp only at hSw)
    obtain ⟨hS0, hS1, hS2, hS3, hS4, hS5, hS6, hS7, hS8, hS9, hS10, hS11, hS12, hS13, hS14, hS15, hS16, hS17, hS18, hS19, hS20, hS21, hS22, hS23⟩ := hSw
    (go_simp; try with_reducible rfl)
  (try simp only [Act.put, zs1, zs2, zs3])
  refine take_at 1 (by kernel_rfl) (by kernel_rfl) (by kernel_rfl) (fun _ _ d _ _ h => by cases d <;> exact h) ⟨_, rfl⟩ (by assumption) (fun o ho => ?_)
  simp only [zg1, zg2, zg3, zg4] at ho
  subst ho
  refine ⟨?_, ⟨by rfl, ?_⟩, ?_⟩
  rotate_left
  · intro w hSw
    (try dsimp only at hSw)
    obtain ⟨hS0, hS1, hS2, hS3, hS4, hS5, hS6, hS7, hS8, hS9, hS10, hS11, hS12, hS13, hS14, hS15, hS16, hS17, hS18, hS19, hS20, hS21, hS22, hS23⟩ := hSw
    (go_simp; try with_reducible rfl)
  (try simp only [Act.put, zs1, zs2, zs3])
  refine take_at 3 (by kernel_rfl) (by kernel_rfl) (by kernel_rfl) (fun _ _ d _ _ h => by cases d <;> exact h) ⟨_, rfl⟩ (by assumption) (fun o ho => ?_)
  simp only [zg1, zg2, zg3, zg4] at ho
  subst ho
  refine ⟨?_, ⟨by rfl, ?_⟩, ?_⟩
  rotate_left
  · intro w hSw
    (try dsimp only at hSw)
    obtain ⟨hS0, hS1, hS2, hS3, hS4, hS5, hS6, hS7, hS8, hS9, hS10, hS11, hS12, hS13, hS14, hS15, hS16, hS17, hS18, hS19, hS20, hS21, hS22, hS23⟩ := hSw
    (go_simp; try with_reducible rfl)
  (try simp only [Act.put, zs1, zs2, zs3])
  refine take_at 4 (by kernel_rfl) (by kernel_rfl) (by kernel_rfl) (fun _ _ d _ _ h => by cases d <;> exact h) ⟨_, rfl⟩ (by assumption) (fun o ho => ?_)
  simp only [zg1, zg2, zg3, zg4] at ho
  subst ho
  refine ⟨?_, ⟨by rfl, ?_⟩, ?_⟩
  rotate_left
  · intro w hSw
    (try dsimp only at hSw)
    obtain ⟨hS0, hS1, hS2, hS3, hS4, hS5, hS6, hS7, hS8, hS9, hS10, hS11, hS12, hS13, hS14, hS15, hS16, hS17, hS18, hS19, hS20, hS21, hS22, hS23⟩ := hSw
    (go_simp; try with_reducible rfl)
  (try simp only [Act.put, zs1, zs2, zs3])
  refine wpAnyH_ready (rs := [2]) (by kernel_rfl) (by simp) ?_
  refine ready_at 2 ⟨_, rfl⟩ (fun o ho K hK => ?_) AllReadyH.nil
  simp only [zg1, zg2, zg3, zg4] at ho
  subst ho
  go_simp
  go_at_call 22
  refine (HSM.out _ hVD).mono ?_
  rintro e w31 ⟨rfl, hb31⟩
  have hV31 := below_on hVD hb31
  clear hb31
  refine hK.out _ _ ?_ (fun hHeld2 => ?_)
  · exact HH.out _ hV31
  replace hHeld := hHeld2
  clear hK K hHeld2
  (try simp only [zs1, zs2, zs3])
  refine wpAnyH_ready (rs := [5]) (by kernel_rfl) (by simp) ?_
  refine ready_at 5 ⟨_, rfl⟩ (fun o ho K hK => ?_) AllReadyH.nil
  simp only [zg1, zg2, zg3, zg4] at ho
  subst ho
  go_simp
  go_at_call 23
  refine (HRS.out _ hV31).mono ?_
  rintro e w32 ⟨rfl, hb32⟩
  have hV32 := below_on hV31 hb32
  clear hb32
  refine hK.out _ _ ?_ (fun hHeld2 => ?_)
  · exact HH.out _ hV32
  replace hHeld := hHeld2
  clear hK K hHeld2
  (try simp only [zs1, zs2, zs3])
  refine take_at 6 (by kernel_rfl) (by kernel_rfl) (by kernel_rfl) (fun _ _ d _ _ h => by cases d <;> exact h) ⟨_, rfl⟩ (by assumption) (fun o ho => ?_)
  simp only [zg1, zg2, zg3, zg4] at ho
  subst ho
  refine ⟨?_, ⟨by rfl, ?_⟩, ?_⟩
  rotate_left
  · intro w hSw
    (try dsimp only at hSw)
    obtain ⟨hS0, hS1, hS2, hS3, hS4, hS5, hS6, hS7, hS8, hS9, hS10, hS11, hS12, hS13, hS14, hS15, hS16, hS17, hS18, hS19, hS20, hS21, hS22, hS23⟩ := hSw
    (go_simp; try with_reducible rfl)
  (try simp only [Act.put, zs1, zs2, zs3])
  refine take_at 7 (by kernel_rfl) (by kernel_rfl) (by kernel_rfl) (fun _ _ d _ _ h => by cases d <;> exact h) ⟨_, rfl⟩ (by assumption) (fun o ho => ?_)
  simp only [zg1, zg2, zg3, zg4] at ho
  subst ho
  refine ⟨?_, ⟨by rfl, ?_⟩, ?_⟩
  rotate_left
  · intro w hSw
    (try dsimp only at hSw)
    obtain ⟨hS0, hS1, hS2, hS3, hS4, hS5, hS6, hS7, hS8, hS9, hS10, hS11, hS12, hS13, hS14, hS15, hS16, hS17, hS18, hS19, hS20, hS21, hS22, hS23⟩ := hSw
    (go_simp; try with_reducible rfl)
  (try simp only [Act.put, zs1, zs2, zs3])
  refine take_at 8 (by kernel_rfl) (by kernel_rfl) (by kernel_rfl) (fun _ _ d _ _ h => by cases d <;> exact h) ⟨_, rfl⟩ (by assumption) (fun o ho => ?_)
  simp only [zg1, zg2, zg3, zg4] at ho
  subst ho
  refine ⟨?_, ⟨by rfl, ?_⟩, ?_⟩
  rotate_left
  · intro w hSw
    (try dsimp only at hSw)
    obtain ⟨hS0, hS1, hS2, hS3, hS4, hS5, hS6, hS7, hS8, hS9, hS10, hS11, hS12, hS13, hS14, hS15, hS16, hS17, hS18, hS19, hS20, hS21, hS22, hS23⟩ := hSw
    (go_simp; try with_reducible rfl)
  (try simp only [Act.put, zs1, zs2, zs3])
  refine take_at 9 (by kernel_rfl) (by kernel_rfl) (by kernel_rfl) (fun _ _ d _ _ h => by cases d <;> exact h) ⟨_, rfl⟩ (by assumption) (fun o ho => ?_)
  simp only [zg1, zg2, zg3, zg4] at ho
  subst ho
  refine ⟨?_, ⟨by rfl, ?_⟩, ?_⟩
  rotate_left
  · intro w hSw
    (try dsimp only at hSw)
    obtain ⟨hS0, hS1, hS2, hS3, hS4, hS5, hS6, hS7, hS8, hS9, hS10, hS11, hS12, hS13, hS14, hS15, hS16, hS17, hS18, hS19, hS20, hS21, hS22, hS23⟩ := hSw
    (go_simp; try with_reducible rfl)
  (try simp only [Act.put, zs1, zs2, zs3])
  refine wpAnyH_ready (rs := [10]) (by kernel_rfl) (by simp) ?_
  refine ready_at 10 ⟨_, rfl⟩ (fun o ho K hK => ?_) AllReadyH.nil
  simp only [zg1, zg2, zg3, zg4] at ho
  subst ho
  go_simp
  go_at_call 22
  refine (HSS.out _ hV32).mono ?_
  rintro e w33 ⟨rfl, hb33⟩
  have hV33 := below_on hV32 hb33
  clear hb33
  refine hK.out _ _ ?_ (fun hHeld2 => ?_)
  · exact HH.out _ hV33
  replace hHeld := hHeld2
  clear hK K hHeld2
  (try simp only [zs1, zs2, zs3])
  refine take_at 11 (by kernel_rfl) (by kernel_rfl) (by kernel_rfl) (fun _ _ d _ _ h => by cases d <;> exact h) ⟨_, rfl⟩ (by assumption) (fun o ho => ?_)
  simp only [zg1, zg2, zg3, zg4] at ho
  subst ho
  refine ⟨?_, ⟨by rfl, ?_⟩, ?_⟩
  rotate_left
  · intro w hSw
    (try dsimp only at hSw)
    obtain ⟨hS0, hS1, hS2, hS3, hS4, hS5, hS6, hS7, hS8, hS9, hS10, hS11, hS12, hS13, hS14, hS15, hS16, hS17, hS18, hS19, hS20, hS21, hS22, hS23⟩ := hSw
    (go_simp; try with_reducible rfl)
  (try simp only [Act.put, zs1, zs2, zs3])
  refine take_at 12 (by kernel_rfl) (by kernel_rfl) (by kernel_rfl) (fun _ _ d _ _ h => by cases d <;> exact h) ⟨_, rfl⟩ (by assumption) (fun o ho => ?_)
  simp only [zg1, zg2, zg3, zg4] at ho
  subst ho
  refine ⟨?_, ⟨by rfl, ?_⟩, ?_⟩
  rotate_left
  · intro w hSw
    (try dsimp only at hSw)
    obtain ⟨hS0, hS1, hS2, hS3, hS4, hS5, hS6, hS7, hS8, hS9, hS10, hS11, hS12, hS13, hS14, hS15, hS16, hS17, hS18, hS19, hS20, hS21, hS22, hS23⟩ := hSw
    (go_simp; try with_reducible rfl)
  (try simp only [Act.put, zs1, zs2, zs3])
  refine take_at 13 (by kernel_rfl) (by kernel_rfl) (by kernel_rfl) (fun _ _ d _ _ h => by cases d <;> exact h) ⟨_, rfl⟩ (by assumption) (fun o ho => ?_)
  simp only [zg1, zg2, zg3, zg4] at ho
  subst ho
  refine ⟨?_, ⟨by rfl, ?_⟩, ?_⟩
  rotate_left
  · intro w hSw
    (try dsimp only at hSw)
    obtain ⟨hS0, hS1, hS2, hS3, hS4, hS5, hS6, hS7, hS8, hS9, hS10, hS11, hS12, hS13, hS14, hS15, hS16, hS17, hS18, hS19, hS20, hS21, hS22, hS23⟩ := hSw
    (go_simp; try with_reducible rfl)
  (try simp only [Act.put, zs1, zs2, zs3])
  refine take_at 14 (by kernel_rfl) (by kernel_rfl) (by kernel_rfl) (fun _ _ d _ _ h => by cases d <;> exact h) ⟨_, rfl⟩ (by assumption) (fun o ho => ?_)
  simp only [zg1, zg2, zg3, zg4] at ho
  subst ho
  refine ⟨?_, ⟨by rfl, ?_⟩, ?_⟩
  rotate_left
  · intro w hSw
    (try dsimp only at hSw)
    obtain ⟨hS0, hS1, hS2, hS3, hS4, hS5, hS6, hS7, hS8, hS9, hS10, hS11, hS12, hS13, hS14, hS15, hS16, hS17, hS18, hS19, hS20, hS21, hS22, hS23⟩ := hSw
    (go_simp; try with_reducible rfl)
  (try simp only [Act.put, zs1, zs2, zs3])
  refine take_at 16 (by kernel_rfl) (by kernel_rfl) (by kernel_rfl) (fun _ _ d _ _ h => by cases d <;> exact h) ⟨_, rfl⟩ (by assumption) (fun o ho => ?_)
  simp only [zg1, zg2, zg3, zg4] at ho
  subst ho
  refine ⟨?_, ⟨by rfl, ?_⟩, ?_⟩
  rotate_left
  · intro w hSw
    (try dsimp only at hSw)
    obtain ⟨hS0, hS1, hS2, hS3, hS4, hS5, hS6, hS7, hS8, hS9, hS10, hS11, hS12, hS13, hS14, hS15, hS16, hS17, hS18, hS19, hS20, hS21, hS22, hS23⟩ := hSw
    (go_simp; try with_reducible rfl)
  (try simp only [Act.put, zs1, zs2, zs3])
  refine wpAnyH_ready (rs := [15]) (by kernel_rfl) (by simp) ?_
  refine ready_at 15 ⟨_, rfl⟩ (fun o ho K hK => ?_) AllReadyH.nil
  simp only [zg1, zg2, zg3, zg4] at ho
  subst ho
  go_simp
  go_at_call 24
  refine (HSZ.out _ hV33).mono ?_
  rintro e w34 ⟨rfl, hb34⟩
  have hV34 := below_on hV33 hb34
  clear hb34
  refine hK.out _ _ ?_ (fun hHeld2 => ?_)
  · exact HH.out _ hV34
  replace hHeld := hHeld2
  clear hK K hHeld2
  (try simp only [zs1, zs2, zs3])
  refine wpAnyH_ready (rs := [17]) (by kernel_rfl) (by simp) ?_
  refine ready_at 17 ⟨_, rfl⟩ (fun o ho K hK => ?_) AllReadyH.nil
  simp only [zg1, zg2, zg3, zg4] at ho
  subst ho
  go_simp
  go_at_call 25
  refine (HRZ.out _ hV34).mono ?_
  rintro e w35 ⟨rfl, hb35⟩
  have hV35 := below_on hV34 hb35
  clear hb35
  refine hK.out _ _ ?_ (fun hHeld2 => ?_)
  · exact HH.out _ hV35
  replace hHeld := hHeld2
  clear hK K hHeld2
  (try simp only [zs1, zs2, zs3])
  refine take_at 18 (by kernel_rfl) (by kernel_rfl) (by kernel_rfl) (fun _ _ d _ _ h => by cases d <;> exact h) ⟨_, rfl⟩ (by assumption) (fun o ho => ?_)
  simp only [zg1, zg2, zg3, zg4] at ho
  subst ho
  refine ⟨?_, ⟨by rfl, ?_⟩, ?_⟩
  rotate_left
  · intro w hSw
    (try dsimp only at hSw)
    obtain ⟨hS0, hS1, hS2, hS3, hS4, hS5, hS6, hS7, hS8, hS9, hS10, hS11, hS12, hS13, hS14, hS15, hS16, hS17, hS18, hS19, hS20, hS21, hS22, hS23⟩ := hSw
    (go_simp; try with_reducible rfl)
  (try simp only [Act.put, zs1, zs2, zs3])
  refine take_at 19 (by kernel_rfl) (by kernel_rfl) (by kernel_rfl) (fun _ _ d _ _ h => by cases d <;> exact h) ⟨_, rfl⟩ (by assumption) (fun o ho => ?_)
  simp only [zg1, zg2, zg3, zg4] at ho
  subst ho
  refine ⟨?_, ⟨by rfl, ?_⟩, ?_⟩
  rotate_left
  · intro w hSw
    (try dsimp only at hSw)
    obtain ⟨hS0, hS1, hS2, hS3, hS4, hS5, hS6, hS7, hS8, hS9, hS10, hS11, hS12, hS13, hS14, hS15, hS16, hS17, hS18, hS19, hS20, hS21, hS22, hS23⟩ := hSw
    (go_simp; try with_reducible rfl)
  (try simp only [Act.put, zs1, zs2, zs3])
  refine wpAnyH_done (by kernel_rfl) ?_ _
  have HV35 := Lib.hid hV35
  have hp5 := HPT.out.2.2.1.below hV35
  obtain ⟨x0, x1, x2, x3, x4, x5⟩ := hp5.six
  clear hp5 hHeld hVD hV31 hV32 hV33 hV34 hV35
  go_upto_region 5 with (fail)
  go_upto_region 6 with (go_at_call 26; refine (rcopy_t 1048576 ta _ _ _ hNa (Nat.le_refl _) (HIA2.out.below HV35.out)).mono ?_; rintro e w5 ⟨cv, rfl, hL5, hb5⟩; obtain ⟨C1, e1, C2, e2, C3, e3, hc⟩ := hL5.form; rw [HEP.out.1, HEP.out.2.1, HEP.out.2.2.1, HEP.out.2.2.2.1, HEP.out.2.2.2.2.1, HEP.out.2.2.2.2.2] at hc; subst hc)
  obtain ⟨V5, hVe, pw, hbe⟩ := made_blk w5 #[.int .i64 kp, .string np, .slice C1 p1 e1, .bool sp, .slice C2 p2 e2, .slice C3 p3 e3] 28
  obtain ⟨Bw, hBw⟩ : ∃ g, g = w5.heap.size := ⟨_, rfl⟩
  rw [← hVe, ← hBw]
  rw [← hBw] at pw
  have HBw := Lib.hid hBw
  have hbx := below_on hb5 hbe
  have HV5 := Lib.hid (below_on HV35.out hbx)
  have HL5 := Lib.hid (hL5.below (Nat.le_refl _) hbe)
  have HZ5 := Lib.hid hb5.size
  have HY5 := Lib.hid hbe.size
  have HX5 := Lib.hid hbx
  have HPw := Lib.hid pw
  clear pw hBw hVe hb5 hbe hL5 hbx
  clear x0 x1 x2 x3 x4 x5
  have hp6 := HPT.out.1.below HV5.out
  obtain ⟨x0, x1, x2, x3, x4, x5⟩ := hp6.six
  clear hp6
  go_upto_region 7 with (go_at_call 27; refine (copy_w 1048576 ta _ _ _ hNa (Nat.le_refl _) (T.Lent.In (R := fun _ => True) (fun _ _ _ => trivial) _ _ (HLX2.out.below HIX2.out HV5.out))).mono ?_; rintro e w6 ⟨cv, rfl, hL6, hb6⟩; obtain ⟨D1, f1, D2, f2, D3, f3, hc⟩ := hL6.form; rw [HEP.out.1, HEP.out.2.1, HEP.out.2.2.1, HEP.out.2.2.2.1, HEP.out.2.2.2.2.1, HEP.out.2.2.2.2.2] at hc; subst hc)
  obtain ⟨V6, hVe, pc, hbe⟩ := made_blk w6 #[.int .i64 kp, .string np, .slice D1 p1 f1, .bool sp, .slice D2 p2 f2, .slice D3 p3 f3] 28
  obtain ⟨Bc, hBc⟩ : ∃ g, g = w6.heap.size := ⟨_, rfl⟩
  rw [← hVe, ← hBc]
  rw [← hBc] at pc
  have HBc := Lib.hid hBc
  have hbx := below_on hb6 hbe
  have HV6 := Lib.hid (below_on HV5.out hbx)
  have HL6 := Lib.hid (hL6.below (Nat.le_refl _) hbe)
  have HZ6 := Lib.hid hb6.size
  have HY6 := Lib.hid hbe.size
  have HX6 := Lib.hid hbx
  have HPc := Lib.hid pc
  clear pc hBc hVe hb6 hbe hL6 hbx
  clear x0 x1 x2 x3 x4 x5
  have hp7 := HPT.out.1.below HV6.out
  obtain ⟨x0, x1, x2, x3, x4, x5⟩ := hp7.six
  clear hp7
  go_upto_region 8 with (go_at_call 27; refine (copy_w 1048576 ta _ _ _ hNa (Nat.le_refl _) (T.Lent.In (R := fun _ => True) (fun _ _ _ => trivial) _ _ (HLX2.out.below HIX2.out HV6.out))).mono ?_; rintro e w7 ⟨cv, rfl, hL7, hb7⟩; obtain ⟨E1, g1, E2, g2, E3, g3, hc⟩ := hL7.form; rw [HEP.out.1, HEP.out.2.1, HEP.out.2.2.1, HEP.out.2.2.2.1, HEP.out.2.2.2.2.1, HEP.out.2.2.2.2.2] at hc; subst hc)
  obtain ⟨V7, hVe, pd, hbe⟩ := made_blk w7 #[.int .i64 kp, .string np, .slice E1 p1 g1, .bool sp, .slice E2 p2 g2, .slice E3 p3 g3] 28
  obtain ⟨Bd, hBd⟩ : ∃ g, g = w7.heap.size := ⟨_, rfl⟩
  rw [← hVe, ← hBd]
  rw [← hBd] at pd
  have HBd := Lib.hid hBd
  have hbx := below_on hb7 hbe
  have HV7 := Lib.hid (below_on HV6.out hbx)
  have HL7 := Lib.hid (hL7.below (Nat.le_refl _) hbe)
  have HZ7 := Lib.hid hb7.size
  have HY7 := Lib.hid hbe.size
  have HX7 := Lib.hid hbx
  have HPd := Lib.hid pd
  clear pd hBd hVe hb7 hbe hL7 hbx
  clear x0 x1 x2 x3 x4 x5
  have hw7 := HPw.out.below (below_on HX6.out HX7.out)
  have hc7 := HPc.out.below HX7.out
  have hlc := HL6.out.below HY6.out HX7.out
  have hlw := HL5.out.below HY5.out (below_on HX6.out HX7.out)
  have HICc := Lib.hid (T.Nw.In _ _ _ _ (fun _ => True) hlc (fun _ _ _ => trivial))
  have HICw := Lib.hid (T.New.In _ _ _ _ (fun b => w35.heap.size ≤ b ∧ b < w5.heap.size) hlw (fun _ h1 h2 => ⟨h1, h2⟩))
  obtain ⟨x0, x1, x2, x3, x4, x5⟩ := hw7.six
  obtain ⟨y0, y1, y2, y3, y4, y5⟩ := hc7.six
  clear hw7 hc7 hlw
  go_upto_region 10 with (go_at_call 13; refine (exact_t 1048576 ta.cp ta.cp _ _ _ _ _ hNp hNp (Nat.le_refl _) rfl HICc.out HICw.out).mono ?_; rintro e w8 ⟨rfl, hb8⟩)
  clear x0 x1 x2 x3 x4 x5
  clear y0 y1 y2 y3 y4 y5
  have hc8 := (HPc.out.below HX7.out).below hb8
  obtain ⟨x0, x1, x2, x3, x4, x5⟩ := hc8.six
  have HSP8 := Lib.hid (T.Nw.sp _ _ _ _ (hlc.below (Nat.le_trans HY6.out HX7.out.size) hb8) (Nat.le_refl _) (Nat.le_refl _))
  have z6 := HY6.out
  have z7 := HX7.out.size
  have z8 := hb8.size
  have hV8 := Lib.hid (below_on HV7.out hb8)
  have HB78 := Lib.hid hb8
  have z62 : Hid (w6.heap.size ≤ w8.heap.size) := Lib.hid (by omega)
  clear hc8 hlc hb8 z6 z7 z8 HICc
  go_upto_region 11 with (go_at_call 14; refine (spoil_t (R0 := fun b => V5.heap.size ≤ b ∧ b < w6.heap.size) 1048576 ta.cp w8 V5.heap.size w6.heap.size _ hNp (Nat.le_refl _) HSP8.out z62.out (fun b h => Nat.lt_of_lt_of_le h.2 z62.out)).mono ?_; rintro e w9 ⟨rfl, hS⟩)
  clear x0 x1 x2 x3 x4 x5
  have h0 : ∀ b, (fun b => V5.heap.size ≤ b ∧ b < w6.heap.size) b → V5.heap.size ≤ b ∧ b < w6.heap.size := fun _ h => h
  have z5 : V2.heap.size ≤ V5.heap.size := HV5.out.size
  have zw : w.heap.size ≤ V2.heap.size := HBB.out.size
  have zx : w1.heap.size ≤ V2.heap.size := HIX2.out
  have zy : w2.heap.size ≤ V2.heap.size := HIY.out
  have z58 : V5.heap.size ≤ w8.heap.size := Nat.le_trans HX6.out.size (Nat.le_trans HX7.out.size HB78.out.size)
  have r1 := sf_blk hS h0 (HPT.out.1.below hV8.out) (.inl (Nat.lt_of_lt_of_le HPT.out.1.lt z5))
  have r2 := sf_blk hS h0 (HPT.out.2.1.below hV8.out) (.inl (Nat.lt_of_lt_of_le HPT.out.2.1.lt z5))
  have r3 := sf_blk hS h0 (HPT.out.2.2.1.below hV8.out) (.inl (Nat.lt_of_lt_of_le HPT.out.2.2.1.lt z5))
  have r4 := sf_blk hS h0 (HPT.out.2.2.2.below hV8.out) (.inl (Nat.lt_of_lt_of_le HPT.out.2.2.2.lt z5))
  have r5 := sf_blk hS h0 (HPw.out.below (below_on HX6.out (below_on HX7.out HB78.out))) (.inl HPw.out.lt)
  have r6 := sf_blk hS h0 (HPd.out.below HB78.out) (.inr (by have := HBd.out; have := HZ7.out; have := HY6.out; omega))
  have HLX9 := Lib.hid (T.Lent.keep (Nat.le_refl _) (Nat.le_refl _) (fun b _ h2 => sf_keep hS h0 (show b < w8.heap.size by omega) (.inl (by omega))) _ _ (HLX2.out.below zx hV8.out))
  have HLY9 := Lib.hid (T.Lent.keep (Nat.le_refl _) (Nat.le_refl _) (fun b _ h2 => sf_keep hS h0 (show b < w8.heap.size by omega) (.inl (by omega))) _ _ (HLY.out.below zy hV8.out))
  have HIA9 := Lib.hid (sf_in hS h0 (HIA2.out.below hV8.out) (fun b hb => ⟨by have : b < w.heap.size := hb.2; omega, .inl (by have : b < w.heap.size := hb.2; omega)⟩))
  have HIB9 := Lib.hid (sf_in hS h0 (HIB2.out.below hV8.out) (fun b hb => ⟨by have : b < w.heap.size := hb.2; omega, .inl (by have : b < w.heap.size := hb.2; omega)⟩))
  have HIW9 := Lib.hid (sf_in hS h0 (HICw.out.below HB78.out) (fun b hb => by have h1 : b < w5.heap.size := hb.2; have h2 := HY5.out; exact ⟨by omega, .inl (by omega)⟩))
  have hid7 := T.Nw.In _ _ _ _ (fun b => V6.heap.size ≤ b ∧ b < w7.heap.size) HL7.out (fun _ h1 h2 => ⟨h1, h2⟩)
  have HID9 := Lib.hid (sf_in hS h0 (hid7.below HB78.out) (fun b hb => by have h1 : b < w7.heap.size := hb.2; have h2 : V6.heap.size ≤ b := hb.1; have h3 := HY7.out; have h4 := HB78.out.size; have h5 := HY6.out; exact ⟨by omega, .inr (by omega)⟩))
  have HPT9 := Lib.hid (And.intro r1 (And.intro r2 (And.intro r3 (And.intro r4 (And.intro r5 r6)))))
  have HV9 := Lib.hid (sf_below hS h0 (below_on HBB.out hV8.out) (Nat.le_trans zw z5))
  have z89 : w8.heap.size ≤ w9.heap.size := hS.1.size
  have HX9 : Hid (w1.heap.size ≤ w9.heap.size) := Lib.hid (by omega)
  have HY9 : Hid (w2.heap.size ≤ w9.heap.size) := Lib.hid (by omega)
  have HC9 : Hid (w5.heap.size ≤ w9.heap.size ∧ w7.heap.size ≤ w9.heap.size) := Lib.hid (by have := HY5.out; have := HY7.out; have := HB78.out.size; omega)
  clear hS h0 z5 zw zx zy z58 z89 r1 r2 r3 r4 r5 r6 hid7
  clear HL5 HL6 HL7 HSP8 z62 HB78 hV8 HICw HX6 HX7 HV5 HV6 HV7 HPw HPc HPd HPT HIA2 HIB2 HLX2 HLY HIX2 HIY HBB HV35 HH HSM HSS HRS HSZ HRZ HY5 HY6 HY7 HZ5 HZ6 HZ7 HX5 hNp
  obtain ⟨x0, x1, x2, x3, x4, x5⟩ := HPT9.out.2.2.1.six
  go_upto_region 12 with (go_at_call 28; refine (rfree_t ta _ _ _ hNa HIA9.out).mono ?_; rintro e w11 ⟨u1, LF, rfl, hr1, hperm, hsort, hb11⟩; obtain ⟨F1, o1, rfl, hle1, hcm1, hst1, hbk1⟩ := row_open hr1)
  clear x0 x1 x2 x3 x4 x5
  have hln : LF.length ≤ 1048576 := free_len hNa hperm
  obtain ⟨n, hn⟩ : ∃ n, LF.length = n := ⟨_, rfl⟩
  have HNM := Lib.hid (fun (w' : World) (R1 R2 : Nat → Prop) (A A' : Option Addr) (c c' : Nat) (h1 : StrL w' R1 A c LF) (h2 : StrL w' R2 A' c' LF) => by have h := names_law w' R1 R2 A A' c c' LF h1 h2 (by omega); rw [hn] at h; exact h)
  have HPS := Lib.hid (And.intro hperm hsort)
  have HST1 := Lib.hid hst1
  rw [hn]
  rw [hn] at hle1 hln
  have HN := Lib.hid hn
  have HLN := Lib.hid hln
  have HB11 := Lib.hid hb11
  clear hr1 hperm hsort hst1 hbk1 hcm1 hle1 hn hln hb11
  have hp12 := HPT9.out.1.below HB11.out
  obtain ⟨x0, x1, x2, x3, x4, x5⟩ := hp12.six
  clear hp12
  go_upto_region 13 with (go_at_call 29; refine (free_t ta _ _ _ hNa (T.Lent.In (R := fun _ => True) (fun _ _ _ => trivial) _ _ (HLX9.out.below HX9.out HB11.out))).mono ?_; rintro e w12 ⟨u2, L2, rfl, hown2, hfl2, hb12⟩; obtain ⟨G1, o2, rfl, hle2, hcm2, hst2, hbk2⟩ := row_open (free_row hfl2 HPS.out.1 HPS.out.2 hown2))
  clear x0 x1 x2 x3 x4 x5
  rw [HN.out]
  rw [HN.out] at hle2
  have HST2 := Lib.hid hst2
  have HBK2 := Lib.hid hbk2
  have HCL2 := Lib.hid (And.intro hle2 hcm2)
  have HB12 := Lib.hid hb12
  clear hown2 hfl2 hle2 hcm2 hst2 hbk2 hb12 L2
  have hB912 := Lib.hid (below_on HB11.out HB12.out)
  have hp13 := HPT9.out.1.below hB912.out
  obtain ⟨x0, x1, x2, x3, x4, x5⟩ := hp13.six
  clear hp13
  go_upto_region 14 with (go_at_call 29; refine (free_t ta _ _ _ hNa (T.Lent.In (R := fun _ => True) (fun _ _ _ => trivial) _ _ (HLX9.out.below HX9.out hB912.out))).mono ?_; rintro e w13 ⟨u3, L3, rfl, hown3, hfl3, hb13⟩; obtain ⟨J1, o3, rfl, hle3, hcm3, hst3, hbk3⟩ := row_open (free_row hfl3 HPS.out.1 HPS.out.2 hown3))
  clear x0 x1 x2 x3 x4 x5
  rw [HN.out]
  have HST3 := Lib.hid hst3
  have HB13 := Lib.hid hb13
  clear hown3 hfl3 hle3 hcm3 hst3 hbk3 hb13 L3
  have HS2 := Lib.hid (strl_below HST2.out (fun _ h => h.2) HB13.out)
  have HS1 := Lib.hid (strl_below HST1.out (fun _ h => h.2) (below_on HB12.out HB13.out))
  go_upto_region 15 with (go_at_call 30; refine (HNM.out _ _ _ _ _ _ _ HS2.out HS1.out).mono ?_; rintro e w14 ⟨rfl, hb14⟩)
  rcases HBK2.out with ⟨rfl, rfl⟩ | ⟨gf, cur, rfl, hgb, hbk, hcs⟩
  ·
   have hn0 : n = 0 := by have := HCL2.out.1; omega
   subst hn0
   clear HBK2 HCL2
   go_wp2_with fail
   go_loopg [14] 1 (fun kg vi wr => kg = 1 ∧ vi = .int .i64 (0 : Nat) ∧ wr = w14)
   case atStart => exact ⟨rfl, rfl, rfl⟩
   case round =>
    obtain ⟨hkg, rfl, hwr⟩ := hrel
    obtain ⟨X, hF, hxF⟩ : ∃ X : Nat → Prop, Fr w14 wr X ∧ ∀ b, X b → w11.heap.size ≤ b ∧ b < w12.heap.size := ⟨fun _ => False, hwr ▸ Fr.refl _ _, fun _ h => h.elim⟩
    clear hwr
    have z1 := HB11.out.size
    have z2 := HB12.out.size
    have z3 := HB13.out.size
    have z4 := hb14.size
    have z9 := HV9.out.size
    have zX := HX9.out
    have zY := HY9.out
    have zC := HC9.out
    have z5 := hF.size
    have hlow : ∀ b, b < w9.heap.size → ¬ X b := fun b hb hx => by have := (hxF b hx).1; omega
    have h914 := below_on (below_on HB11.out HB12.out) (below_on HB13.out hb14)
    have r1 := hF.blk (HPT9.out.1.below h914) (hlow _ HPT9.out.1.lt)
    have r2 := hF.blk (HPT9.out.2.1.below h914) (hlow _ HPT9.out.2.1.lt)
    have r3 := hF.blk (HPT9.out.2.2.1.below h914) (hlow _ HPT9.out.2.2.1.lt)
    have r4 := hF.blk (HPT9.out.2.2.2.1.below h914) (hlow _ HPT9.out.2.2.2.1.lt)
    have r5 := hF.blk (HPT9.out.2.2.2.2.1.below h914) (hlow _ HPT9.out.2.2.2.2.1.lt)
    have r6 := hF.blk (HPT9.out.2.2.2.2.2.below h914) (hlow _ HPT9.out.2.2.2.2.2.lt)
    have HLXr := Lib.hid (T.Lent.keep (Nat.le_refl _) (Nat.le_refl _) (fun b _ h2 => hF.block b (by omega) (hlow b (by omega))) _ _ (HLX9.out.below zX h914))
    have HLYr := Lib.hid (T.Lent.keep (Nat.le_refl _) (Nat.le_refl _) (fun b _ h2 => hF.block b (by omega) (hlow b (by omega))) _ _ (HLY9.out.below zY h914))
    have HIAr := Lib.hid ((HIA9.out.below h914).fr (fun b hb => by have : b < w.heap.size := hb.2; exact hF.block b (by omega) (hlow b (by omega))))
    have HIBr := Lib.hid ((HIB9.out.below h914).fr (fun b hb => by have : b < w.heap.size := hb.2; exact hF.block b (by omega) (hlow b (by omega))))
    have HIWr := Lib.hid ((HIW9.out.below h914).fr (fun b hb => by have : b < w5.heap.size := hb.2; exact hF.block b (by omega) (hlow b (by omega))))
    have HIDr := Lib.hid ((HID9.out.below h914).fr (fun b hb => by have : b < w7.heap.size := hb.2; exact hF.block b (by omega) (hlow b (by omega))))
    have HJr := Lib.hid (strl_fr (strl_below HST3.out (fun _ h => h.2) hb14) hF (fun b hb => ⟨by have : b < w13.heap.size := hb.2; omega, fun hx => by have := (hxF b hx).2; have : w12.heap.size ≤ b := hb.1; omega⟩))
    have HFr := Lib.hid (strl_fr (strl_below HS1.out (fun b h => by have : b < w11.heap.size := h.2; omega) hb14) hF (fun b hb => ⟨by have : b < w11.heap.size := hb.2; omega, fun hx => by have := (hxF b hx).1; have : b < w11.heap.size := hb.2; omega⟩))
    have HVr := Lib.hid ((below_on HV9.out h914).trans (fr_low hF (B := w.heap.size) (by omega) (fun k hk => by have := (hxF k hk).1; omega)))
    have HZX : Hid (w1.heap.size ≤ wr.heap.size ∧ w2.heap.size ≤ wr.heap.size) := Lib.hid (by omega)
    have HZJ : Hid (w13.heap.size ≤ wr.heap.size ∧ w11.heap.size ≤ wr.heap.size) := Lib.hid (by omega)
    have HR := Lib.hid (And.intro r1 (And.intro r2 (And.intro r3 r4)))
    have hQ0 : Below wr.heap.size wr wr := Below.refl _ _
    obtain ⟨x0, x1, x2, x3, x4, x5⟩ := r5.six
    obtain ⟨y0, y1, y2, y3, y4, y5⟩ := r6.six
    clear h914 hF hxF hlow r1 r2 r3 r4 r5 r6 z1 z2 z3 z4 z5 z9 zX zY zC hb14
    go_wp2_with (first
     | (go_at_call 15; refine (known_w _).mono ?_; rintro e w25 ⟨rfl, hb25⟩; have hQ5 := below_on hQ4 hb25)
     | (go_at_call 21; refine (unspoilt_t 1048576 tb _ _ _ _ _ _ hNb (Nat.le_refl _) (HLYr.out.below HZX.out.2 hQ3) (Nat.le_trans HZX.out.2 hQ3.size) (HIBr.out.below hQ3)).mono ?_; rintro e w24 ⟨rfl, hb24⟩; have hQ4 := below_on hQ3 hb24)
     | (go_at_call 21; refine (unspoilt_t 1048576 ta _ _ _ _ _ _ hNa (Nat.le_refl _) (HLXr.out.below HZX.out.1 hQ2) (Nat.le_trans HZX.out.1 hQ2.size) (HIAr.out.below hQ2)).mono ?_; rintro e w23 ⟨rfl, hb23⟩; have hQ3 := below_on hQ2 hb23; have hq1 := HR.out.2.1.below hQ3; have hq2 := HR.out.2.2.2.below hQ3; obtain ⟨x30, x31, x32, x33, x34, x35⟩ := hq1.six; obtain ⟨y30, y31, y32, y33, y34, y35⟩ := hq2.six; clear hq1 hq2)
     | (go_at_call 30; refine (HNM.out _ _ _ _ _ _ _ (strl_below HJr.out (fun _ h => Nat.lt_of_lt_of_le h.2 HZJ.out.1) hQ1) (strl_below HFr.out (fun _ h => Nat.lt_of_lt_of_le h.2 HZJ.out.2) hQ1)).mono ?_; rintro e w22 ⟨rfl, hb22⟩; have hQ2 := below_on hQ1 hb22; have hq1 := HR.out.1.below hQ2; have hq2 := HR.out.2.2.1.below hQ2; obtain ⟨x20, x21, x22, x23, x24, x25⟩ := hq1.six; obtain ⟨y20, y21, y22, y23, y24, y25⟩ := hq2.six; clear hq1 hq2)
     | (go_at_call 13; refine (exact_t 1048576 ta.cp ta.cp _ _ _ _ _ (Nat.le_trans HCB.out hNa) (Nat.le_trans HCB.out hNa) (Nat.le_refl _) rfl HIDr.out HIWr.out).mono ?_; rintro e w21 ⟨rfl, hb21⟩; have hQ1 := below_on hQ0 hb21))
    go_ret
    exact ⟨rfl, below_on HVr.out hQ5⟩
  ·
   have hbf := (hbk.below HB13.out).below hb14
   have hc1 := HCL2.out.1
   have hc2 := HCL2.out.2
   have HGB : Hid (w11.heap.size ≤ gf ∧ gf < w12.heap.size) := Lib.hid ⟨hgb, hbk.lt⟩
   unfold maxLen at hc2
   have hc0 : (0 : Int) ≤ o2 := by omega
   clear HBK2 hbk hgb
   go_wp2_with fail
   go_loopg [14] (o2 + 1) (fun kg vi wr => ∃ (i : Nat), kg + i = o2 + 1 ∧ i ≤ o2 ∧ vi = .int .i64 (i : Nat) ∧ Fr w14 wr (fun b => b = gf) ∧ ∃ cur', Blk wr gf 9 cur' ∧ cur'.size = o2)
   case atStart => exact ⟨0, by omega, Nat.zero_le _, rfl, Fr.refl _ _, cur, hbf, hcs⟩
   case round =>
    clear hbf hcs
    obtain ⟨i, hi', hin, rfl, hF, cur', hbr, hcr⟩ := hrel
    by_cases hlt : i < o2
    ·
     have hi3 : decide (i < o2) = true := decide_eq_true hlt
     have hl : i < cur'.size := by omega
     obtain ⟨v0, hv0⟩ : ∃ v, cur'[i]? = some v := ⟨_, Array.getElem?_eq_getElem hl⟩
     have y0 := (hbr.cell i).trans hv0
     have y1 := hbr.free i
     have hi0 : (0 : Int) ≤ i := by omega
     have hi1 : (i : Int) < o2 := by omega
     clear hv0
     go_wp2_with fail
     go_roundg (o2 - i)
     case measure => omega
     case rel => exact ⟨i + 1, by omega, by omega, by go_num, hF.set (.inl rfl) _ _, _, hbr.put _ _, by simpa using hcr⟩
    ·
     have hi3 : decide (i < o2) = false := decide_eq_false hlt
     have hxF : ∀ b, (fun b => b = gf) b → w11.heap.size ≤ b ∧ b < w12.heap.size := fun b hb => by have : b = gf := hb; subst this; exact HGB.out
     obtain ⟨X, hX⟩ : ∃ X : Nat → Prop, (fun b => b = gf) = X := ⟨_, rfl⟩
     rw [hX] at hF hxF
     clear hX hbr hcr hc1 hc2
     have z1 := HB11.out.size
     have z2 := HB12.out.size
     have z3 := HB13.out.size
     have z4 := hb14.size
     have z9 := HV9.out.size
     have zX := HX9.out
     have zY := HY9.out
     have zC := HC9.out
     have z5 := hF.size
     have hlow : ∀ b, b < w9.heap.size → ¬ X b := fun b hb hx => by have := (hxF b hx).1; omega
     have h914 := below_on (below_on HB11.out HB12.out) (below_on HB13.out hb14)
     have r1 := hF.blk (HPT9.out.1.below h914) (hlow _ HPT9.out.1.lt)
     have r2 := hF.blk (HPT9.out.2.1.below h914) (hlow _ HPT9.out.2.1.lt)
     have r3 := hF.blk (HPT9.out.2.2.1.below h914) (hlow _ HPT9.out.2.2.1.lt)
     have r4 := hF.blk (HPT9.out.2.2.2.1.below h914) (hlow _ HPT9.out.2.2.2.1.lt)
     have r5 := hF.blk (HPT9.out.2.2.2.2.1.below h914) (hlow _ HPT9.out.2.2.2.2.1.lt)
     have r6 := hF.blk (HPT9.out.2.2.2.2.2.below h914) (hlow _ HPT9.out.2.2.2.2.2.lt)
     have HLXr := Lib.hid (T.Lent.keep (Nat.le_refl _) (Nat.le_refl _) (fun b _ h2 => hF.block b (by omega) (hlow b (by omega))) _ _ (HLX9.out.below zX h914))
     have HLYr := Lib.hid (T.Lent.keep (Nat.le_refl _) (Nat.le_refl _) (fun b _ h2 => hF.block b (by omega) (hlow b (by omega))) _ _ (HLY9.out.below zY h914))
     have HIAr := Lib.hid ((HIA9.out.below h914).fr (fun b hb => by have : b < w.heap.size := hb.2; exact hF.block b (by omega) (hlow b (by omega))))
     have HIBr := Lib.hid ((HIB9.out.below h914).fr (fun b hb => by have : b < w.heap.size := hb.2; exact hF.block b (by omega) (hlow b (by omega))))
     have HIWr := Lib.hid ((HIW9.out.below h914).fr (fun b hb => by have : b < w5.heap.size := hb.2; exact hF.block b (by omega) (hlow b (by omega))))
     have HIDr := Lib.hid ((HID9.out.below h914).fr (fun b hb => by have : b < w7.heap.size := hb.2; exact hF.block b (by omega) (hlow b (by omega))))
     have HJr := Lib.hid (strl_fr (strl_below HST3.out (fun _ h => h.2) hb14) hF (fun b hb => ⟨by have : b < w13.heap.size := hb.2; omega, fun hx => by have := (hxF b hx).2; have : w12.heap.size ≤ b := hb.1; omega⟩))
     have HFr := Lib.hid (strl_fr (strl_below HS1.out (fun b h => by have : b < w11.heap.size := h.2; omega) hb14) hF (fun b hb => ⟨by have : b < w11.heap.size := hb.2; omega, fun hx => by have := (hxF b hx).1; have : b < w11.heap.size := hb.2; omega⟩))
     have HVr := Lib.hid ((below_on HV9.out h914).trans (fr_low hF (B := w.heap.size) (by omega) (fun k hk => by have := (hxF k hk).1; omega)))
     have HZX : Hid (w1.heap.size ≤ wr.heap.size ∧ w2.heap.size ≤ wr.heap.size) := Lib.hid (by omega)
     have HZJ : Hid (w13.heap.size ≤ wr.heap.size ∧ w11.heap.size ≤ wr.heap.size) := Lib.hid (by omega)
     have HR := Lib.hid (And.intro r1 (And.intro r2 (And.intro r3 r4)))
     have hQ0 : Below wr.heap.size wr wr := Below.refl _ _
     obtain ⟨x0, x1, x2, x3, x4, x5⟩ := r5.six
     obtain ⟨y0, y1, y2, y3, y4, y5⟩ := r6.six
     clear h914 hF hxF hlow r1 r2 r3 r4 r5 r6 z1 z2 z3 z4 z5 z9 zX zY zC hb14
     go_wp2_with (first
      | (go_at_call 15; refine (known_w _).mono ?_; rintro e w25 ⟨rfl, hb25⟩; have hQ5 := below_on hQ4 hb25)
      | (go_at_call 21; refine (unspoilt_t 1048576 tb _ _ _ _ _ _ hNb (Nat.le_refl _) (HLYr.out.below HZX.out.2 hQ3) (Nat.le_trans HZX.out.2 hQ3.size) (HIBr.out.below hQ3)).mono ?_; rintro e w24 ⟨rfl, hb24⟩; have hQ4 := below_on hQ3 hb24)
      | (go_at_call 21; refine (unspoilt_t 1048576 ta _ _ _ _ _ _ hNa (Nat.le_refl _) (HLXr.out.below HZX.out.1 hQ2) (Nat.le_trans HZX.out.1 hQ2.size) (HIAr.out.below hQ2)).mono ?_; rintro e w23 ⟨rfl, hb23⟩; have hQ3 := below_on hQ2 hb23; have hq1 := HR.out.2.1.below hQ3; have hq2 := HR.out.2.2.2.below hQ3; obtain ⟨x30, x31, x32, x33, x34, x35⟩ := hq1.six; obtain ⟨y30, y31, y32, y33, y34, y35⟩ := hq2.six; clear hq1 hq2)
      | (go_at_call 30; refine (HNM.out _ _ _ _ _ _ _ (strl_below HJr.out (fun _ h => Nat.lt_of_lt_of_le h.2 HZJ.out.1) hQ1) (strl_below HFr.out (fun _ h => Nat.lt_of_lt_of_le h.2 HZJ.out.2) hQ1)).mono ?_; rintro e w22 ⟨rfl, hb22⟩; have hQ2 := below_on hQ1 hb22; have hq1 := HR.out.1.below hQ2; have hq2 := HR.out.2.2.1.below hQ2; obtain ⟨x20, x21, x22, x23, x24, x25⟩ := hq1.six; obtain ⟨y20, y21, y22, y23, y24, y25⟩ := hq2.six; clear hq1 hq2)
      | (go_at_call 13; refine (exact_t 1048576 ta.cp ta.cp _ _ _ _ _ (Nat.le_trans HCB.out hNa) (Nat.le_trans HCB.out hNa) (Nat.le_refl _) rfl HIDr.out HIWr.out).mono ?_; rintro e w21 ⟨rfl, hb21⟩; have hQ1 := below_on hQ0 hb21))
     go_ret
     exact ⟨rfl, below_on HVr.out hQ5⟩
end
end Go.Proofs.YthiadenmljbdaaaGreatDoor
