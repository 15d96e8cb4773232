/-
  The document's readings: months, weekdays, hours, offsets, times (the walks).
-/
import Derived.Test.YtbciennhcdabeaaGreatDoorRdK
import Derived.Test.YtbciennhcdabeaaGreatDoorRdI
namespace Go.Proofs.YtbciennhcdabeaaGreatDoor
set_option linter.unusedVariables false
set_option linter.unusedSimpArgs false
open Go.ChangeShapes Go.WideShapes Go.ChangeAt Go.RowKit Civ

set_option maxRecDepth 100000 in
theorem monthOf_any (s : ByteArray) (w : World) :
    Calls Tryz.prog 44 #[.string s] w fun e w' => e = .returned (.tuple #[.int .i64 (monS s).1, .int .i64 (monS s).2]) ∧ Below w.heap.size w w' := by
  have HB : Hid (Below w.heap.size w (w.alloc (.cells #[.string ⟨#[74, 97, 110]⟩, .string ⟨#[70, 101, 98]⟩, .string ⟨#[77, 97, 114]⟩, .string ⟨#[65, 112, 114]⟩, .string ⟨#[77, 97, 121]⟩, .string ⟨#[74, 117, 110]⟩, .string ⟨#[74, 117, 108]⟩, .string ⟨#[65, 117, 103]⟩, .string ⟨#[83, 101, 112]⟩, .string ⟨#[79, 99, 116]⟩, .string ⟨#[78, 111, 118]⟩, .string ⟨#[68, 101, 99]⟩] 9))) := (Below.refl _ _).alloc (Nat.le_refl _) _
  have HP := Lib.hid (placeIn_any monN s w.heap.size 12 (w.alloc (.cells #[.string ⟨#[74, 97, 110]⟩, .string ⟨#[70, 101, 98]⟩, .string ⟨#[77, 97, 114]⟩, .string ⟨#[65, 112, 114]⟩, .string ⟨#[77, 97, 121]⟩, .string ⟨#[74, 117, 110]⟩, .string ⟨#[74, 117, 108]⟩, .string ⟨#[65, 117, 103]⟩, .string ⟨#[83, 101, 112]⟩, .string ⟨#[79, 99, 116]⟩, .string ⟨#[78, 111, 118]⟩, .string ⟨#[68, 101, 99]⟩] 9)) (by decide) (fun k hk => by
    rw [World.cell?_alloc_at _ _ _ _ rfl]
    have h : ∀ i : Fin 12, (#[.string ⟨#[74, 97, 110]⟩, .string ⟨#[70, 101, 98]⟩, .string ⟨#[77, 97, 114]⟩, .string ⟨#[65, 112, 114]⟩, .string ⟨#[77, 97, 121]⟩, .string ⟨#[74, 117, 110]⟩, .string ⟨#[74, 117, 108]⟩, .string ⟨#[65, 117, 103]⟩, .string ⟨#[83, 101, 112]⟩, .string ⟨#[79, 99, 116]⟩, .string ⟨#[78, 111, 118]⟩, .string ⟨#[68, 101, 99]⟩] : Array Value)[(i : Nat)]? = some (.string (monN[(i : Nat)]'(by have := i.2; exact this))) := by
      intro i
      match i with
      | ⟨0, _⟩ => rfl
      | ⟨1, _⟩ => rfl
      | ⟨2, _⟩ => rfl
      | ⟨3, _⟩ => rfl
      | ⟨4, _⟩ => rfl
      | ⟨5, _⟩ => rfl
      | ⟨6, _⟩ => rfl
      | ⟨7, _⟩ => rfl
      | ⟨8, _⟩ => rfl
      | ⟨9, _⟩ => rfl
      | ⟨10, _⟩ => rfl
      | ⟨11, _⟩ => rfl
    exact h ⟨k, hk⟩))
  have hb := fidx_lo (fun x => decide (x = s)) monN
  have hb1 : -1 ≤ plcS monN s ∧ plcS monN s < 12 := hb
  have HM : Hid (monS s = if plcS monN s < 0 then (0, 4) else (plcS monN s + 1, 0)) := rfl
  clear hb
  generalize plcS monN s = p at *
  obtain ⟨b0, b1⟩ := hb1
  by_cases hp : p < 0
  · have HM2 : Hid (monS s = (0, 4)) := HM.out.trans (if_pos hp)
    go_enter Tryz.func44, Tryz.ntmps44
    go_wp2_with fail
    refine HP.out.mono ?_; rintro e w1 ⟨rfl, rfl⟩
    go_wp2
    go_ret2
    exact ⟨by rw [HM2.out]; rfl, HB.out⟩
  · have HM2 : Hid (monS s = (p + 1, 0)) := HM.out.trans (if_neg hp)
    go_enter Tryz.func44, Tryz.ntmps44
    go_wp2_with fail
    refine HP.out.mono ?_; rintro e w1 ⟨rfl, rfl⟩
    go_wp2
    go_ret2
    exact ⟨by rw [HM2.out]; rfl, HB.out⟩
set_option maxRecDepth 100000 in
theorem weekdayNamed_any (s : ByteArray) (w : World) :
    Calls Tryz.prog 78 #[.string s] w fun e w' => e = .returned (.tuple #[.int .i64 (wdS s).1, .int .i64 (wdS s).2]) ∧ Below w.heap.size w w' := by
  have HB : Hid (Below w.heap.size w (w.alloc (.cells #[.string ⟨#[83, 117, 110]⟩, .string ⟨#[77, 111, 110]⟩, .string ⟨#[84, 117, 101]⟩, .string ⟨#[87, 101, 100]⟩, .string ⟨#[84, 104, 117]⟩, .string ⟨#[70, 114, 105]⟩, .string ⟨#[83, 97, 116]⟩] 9))) := (Below.refl _ _).alloc (Nat.le_refl _) _
  have HP := Lib.hid (placeIn_any wdN s w.heap.size 7 (w.alloc (.cells #[.string ⟨#[83, 117, 110]⟩, .string ⟨#[77, 111, 110]⟩, .string ⟨#[84, 117, 101]⟩, .string ⟨#[87, 101, 100]⟩, .string ⟨#[84, 104, 117]⟩, .string ⟨#[70, 114, 105]⟩, .string ⟨#[83, 97, 116]⟩] 9)) (by decide) (fun k hk => by
    rw [World.cell?_alloc_at _ _ _ _ rfl]
    have h : ∀ i : Fin 7, (#[.string ⟨#[83, 117, 110]⟩, .string ⟨#[77, 111, 110]⟩, .string ⟨#[84, 117, 101]⟩, .string ⟨#[87, 101, 100]⟩, .string ⟨#[84, 104, 117]⟩, .string ⟨#[70, 114, 105]⟩, .string ⟨#[83, 97, 116]⟩] : Array Value)[(i : Nat)]? = some (.string (wdN[(i : Nat)]'(by have := i.2; exact this))) := by
      intro i
      match i with
      | ⟨0, _⟩ => rfl
      | ⟨1, _⟩ => rfl
      | ⟨2, _⟩ => rfl
      | ⟨3, _⟩ => rfl
      | ⟨4, _⟩ => rfl
      | ⟨5, _⟩ => rfl
      | ⟨6, _⟩ => rfl
    exact h ⟨k, hk⟩))
  have hb := fidx_lo (fun x => decide (x = s)) wdN
  have hb1 : -1 ≤ plcS wdN s ∧ plcS wdN s < 7 := hb
  have HM : Hid (wdS s = if plcS wdN s < 0 then (0, 4) else (plcS wdN s, 0)) := rfl
  clear hb
  generalize plcS wdN s = p at *
  obtain ⟨b0, b1⟩ := hb1
  by_cases hp : p < 0
  · have HM2 : Hid (wdS s = (0, 4)) := HM.out.trans (if_pos hp)
    go_enter Tryz.func78, Tryz.ntmps78
    go_wp2_with fail
    refine HP.out.mono ?_; rintro e w1 ⟨rfl, rfl⟩
    go_wp2
    go_ret2
    exact ⟨by rw [HM2.out]; rfl, HB.out⟩
  · have HM2 : Hid (wdS s = (p, 0)) := HM.out.trans (if_neg hp)
    go_enter Tryz.func78, Tryz.ntmps78
    go_wp2_with fail
    refine HP.out.mono ?_; rintro e w1 ⟨rfl, rfl⟩
    go_wp2
    go_ret2
    exact ⟨by rw [HM2.out]; rfl, HB.out⟩
end Go.Proofs.YtbciennhcdabeaaGreatDoor
