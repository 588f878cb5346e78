/- The law's own live question (layer 4): it is answered with yes. -/
import Derived.Test.YtfooglenhepogaaCp1
namespace Go.Proofs.Ytfooglenhepogaa
open Go.RowKit Go.Kin
set_option linter.unusedVariables false
theorem alive_put : ((⟨0, 4, 4294967295⟩ : St).putI 1024 1).putI 1024 0 = ⟨2147482624, 4, 1073741824⟩ := by kernel_rfl
theorem alive_get : (⟨4, 2147482624, 4294967295⟩ : DS).get (dig 2147482624 4) 4 1024 = (1, 0, ⟨4, 0, 2147484671⟩) := by kernel_rfl
theorem alive_got : (⟨4, 0, 2147484671⟩ : DS).get (dig 2147482624 4) 4 1024 = (0, 0, ⟨4, 0, 1073741824⟩) := by kernel_rfl
theorem alive_num : numOf (dig 2147482624 4) 4 = 2147482624 := by kernel_rfl
theorem alive_next : nextP 1024 1 = 992 := by kernel_rfl
theorem alive_e1 : putE 1024 1 = 0 := by kernel_rfl
theorem alive_e2 : putE 1024 0 = 0 := by kernel_rfl
theorem alive_dig : dig 2147482624 4 0 = 127 := by kernel_rfl
set_option maxRecDepth 100000 in
set_option maxHeartbeats 2000000 in
theorem alive04 (w : World) : Calls Try.prog 23 #[] w fun e w' => e = .returned (.bool true) ∧ Below w.heap.size w w' := by
  have K := Kc.start w
  go_enter Try.func23, Try.ntmps23
  go_wp2_with fail
  refine (cnew_s _).mono ?_
  rintro e w1 ⟨p, rfl, hE, hb⟩
  replace hE := hE (fun _ => 0) 1
  replace K := K.upd (i := 1) ⟨by omega, trivial⟩ (Upd.of_below hb _ _)
  generalize recol _ _ _ = c1 at *
  clear hb
  have HE := Lib.hid hE
  have HK := Lib.hid K
  clear hE K
  go_wp2_with fail
  refine (put_s HE.out (by dsimp only; omega) 1024 1 (by omega)).mono ?_
  rintro e w2 ⟨rfl, hu, hE⟩
  have K := HK.out.upd (i := 1) ⟨by omega, trivial⟩ hu
  generalize recol _ _ _ = c2 at *
  clear hu HE HK
  rw [alive_e1]
  have HE := Lib.hid hE
  have HK := Lib.hid K
  clear hE K
  go_wp2_with fail
  have hl := (putI_ok (c := 1024) (bit := 1) (s := ⟨0, 4, 4294967295⟩) (by unfold St.ok; dsimp only; omega)).2.1
  dsimp only at hl
  refine (put_s HE.out (by omega) 1024 0 (by omega)).mono ?_
  rintro e w3 ⟨rfl, hu, hE⟩
  rw [alive_put] at hE
  have K := HK.out.upd (i := 1) ⟨by omega, trivial⟩ hu
  generalize recol _ _ _ = c3 at *
  clear hu HE HK
  rw [alive_e2]
  have HE := Lib.hid hE
  have HK := Lib.hid K
  clear hE K
  go_wp2_with fail
  refine (bytes_s HE.out (by dsimp only; omega)).mono ?_
  rintro e w4 ⟨A, rfl, hR, hf, hb⟩
  dsimp only at hR ⊢
  have K := (HK.out.upd (i := 2) ⟨by omega, trivial⟩ (Upd.of_below hb _ _)).fresh hR hf
  generalize recol _ _ _ = c4 at *
  clear hb HE HK hf
  obtain ⟨b, off, rfl, _⟩ := hR.some_ (by omega)
  have HR := Lib.hid hR
  have HK := Lib.hid K
  clear hR K
  go_wp2_with fail
  refine (open_s _ 4 4 _ _ HR.out (dig_byt _ _) (by omega) (by omega) (by omega) (by omega)).mono ?_
  rintro e w5 ⟨q, rfl, hD, hb⟩
  replace hD := hD c4 3
  rw [alive_num] at hD
  have K := HK.out.upd (i := 3) ⟨by omega, by omega, trivial⟩ (Upd.of_below hb _ _)
  generalize recol _ _ _ = c5 at *
  clear hb HR HK
  have HD := Lib.hid hD
  have HK := Lib.hid K
  clear hD K
  go_wp2_with fail
  refine (get_s HD.out (dig_byt _ _) 1024 (by omega)).mono ?_
  rw [alive_get]
  rintro e w6 ⟨rfl, hu, hD⟩
  have K := HK.out.upd (i := 3) ⟨by omega, by omega, trivial⟩ hu
  generalize recol _ _ _ = c6 at *
  clear hu HD HK
  have HD := Lib.hid hD
  have HK := Lib.hid K
  clear hD K
  go_wp2_with fail
  refine (get_s HD.out (dig_byt _ _) 1024 (by omega)).mono ?_
  rw [alive_got]
  rintro e w7 ⟨rfl, hu, hD⟩
  have K := HK.out.upd (i := 3) ⟨by omega, by omega, trivial⟩ hu
  generalize recol _ _ _ = c7 at *
  clear hu HD HK
  have c0 := Rd.at_ K.1.1 (i := 0) (by omega)
  rw [by8_at, alive_dig, Nat.add_zero] at c0
  have HL := Lib.hid K.2.sinceB
  have HD := Lib.hid hD
  clear hD K
  go_wp2_with fail
  refine (end_s HD.out).mono ?_
  rintro e w8 ⟨rfl, rfl⟩
  go_wp2_with fail
  refine (next_any 1024 1 _ (by omega)).mono ?_
  rintro e w8 ⟨rfl, rfl⟩
  rw [alive_next]
  go_wp2
  go_ret
  exact ⟨rfl, HL.out⟩
end Go.Proofs.Ytfooglenhepogaa
