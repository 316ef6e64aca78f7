import Derived.Test.YtlmdpamehhcblaaGreatDoorRe
/- Contracts of package whole: plus. -/
namespace Go.Proofs.YtlmdpamehhcblaaGreatDoor
open Go.RowKit
open Go.Lib (itoa decDigits)
open YtlmdpamehhcblaaGreatDoorV (wd nw B upd B_eq)

/-- A wide with the sum of two integers; of what was there, it alone may have turned. -/
def Plus (g : Nat) (s : Int) (w : World) (e : Ending) (w' : World) : Prop := e = .returned (.tuple #[]) ∧ (∃ l v, IsW w' g l v ∧ wint l v = s) ∧ Fr g w w'
theorem wcells_one (l : Bool) (n : Int) (f : Nat → Int) : ∀ v ∈ (wcells l n f).toList, v.oneCell' = true := by
  intro v hv
  rw [wcells_toList] at hv
  simp only [List.mem_cons, List.mem_map] at hv
  rcases hv with rfl | rfl | ⟨j, _, rfl⟩ <;> rfl
theorem store_wide {w : World} {g : Nat} {l l' : Bool} {n n' : Int} {f f' : Nat → Int} (h : WB w g l n f) :
    (storeCells ⟨g, 0, none⟩ (wcells l' n' f').toList).run Tryz.prog w = .ok () (w.setRow g (wcells l' n' f')) := by
  have := run_storeCells_from (P := Tryz.prog) g 136 (wcells l' n' f').toList 0 (wcells l n f) w h (by simp [wcells_size]) (wcells_one l' n' f')
  simpa [wcells_size] using this
theorem WB.row {w : World} {g : Nat} {l l' : Bool} {n n' : Int} {f f' : Nat → Int} (h : WB w g l n f) : WB (w.setRow g (wcells l' n' f')) g l' n' f' := setRow_heap w g _ _ 136 _ h
theorem Fr.row {a w : World} {g : Nat} (h : Fr g a w) (cs : Array Value) : Fr g a (w.setRow g cs) :=
  h.trans ⟨rfl, rfl, rfl, by simp [World.setRow], fun k _ hk => by
    simp only [World.setRow, Array.getElem?_modify]
    rw [if_neg (fun e => hk e.symm)]⟩
set_option maxHeartbeats 1000000 in
set_option maxRecDepth 100000 in
theorem plus_c (w : World) (gx gy : Nat) (lx ly : Bool) (X Y : Nat) (hx : IsW w gx lx X) (hy : IsW w gy ly Y) (hne : gy ≠ gx) (hV : X + Y < B ^ 232) :
    Calls Tryz.prog 190 #[.pointer (some ⟨gx, 0, none⟩), .pointer (some ⟨gy, 0, none⟩)] w (Plus gx (wint lx X + wint ly Y) w) := by
  have c0 := hx.1.c0
  have d0 := hy.1.c0
  have HB := Lib.hid (fun w hx hy => beyond_c w gx gy lx ly X Y hx hy)
  have Hx := Lib.hid hx; have Hy := Lib.hid hy
  have HV := Lib.hid hV
  have hb := hy.bd
  clear hx hy hV
  by_cases hl : lx = ly
  · subst hl
    have HC := Lib.hid (fun w hx hy => carry_loop w gx gy lx lx X Y 1 0 (X + Y) hx hy hne (by omega) (by decide) (by decide) (by simp) HV.out)
    clear hb
    go_enter Tryz.func190, Tryz.ntmps190
    go_wp2_with fail
    go_quiet (fail)
    go_wp2_with fail
    refine (HC.out _ (Hx.out.drewN _) (Hy.out.drewN _)).mono ?_
    rintro e w1 ⟨rfl, hi, hf⟩
    go_wp2_with fail
    go_end0
    exact ⟨rfl, ⟨lx, X + Y, hi, by unfold wint; split <;> omega⟩, ((Fr.refl _ _).drewN _).trans hf⟩
  · have h2 : (lx == ly) = false := by cases lx <;> cases ly <;> simp_all
    by_cases hle : Y ≤ X
    · have HC := Lib.hid (fun w hx hy => carry_loop w gx gy lx ly X Y (-1) 0 (X - Y) hx hy hne (by omega) (by decide) (by decide) (by simp; omega) (by have := HV.out; omega))
      clear hb
      go_enter Tryz.func190, Tryz.ntmps190
      go_wp2_with fail
      go_quiet (fail)
      go_wp2_with fail
      refine (HB.out _ (Hx.out.drewN _) (Hy.out.drewN _)).mono ?_
      rintro e w1 ⟨b, rfl, hc, hg⟩
      have hb0 : 0 ≤ b := by have := hc.1; omega
      clear hc
      go_wp2_with fail
      refine (HC.out _ ((Hx.out.drewN _).grow hg) ((Hy.out.drewN _).grow hg)).mono ?_
      rintro e w2 ⟨rfl, hi, hf⟩
      go_wp2_with fail
      go_end0
      refine ⟨rfl, ⟨lx, X - Y, hi, ?_⟩, (((Fr.refl _ _).drewN _).trans (Fr.of hg)).trans hf⟩
      unfold wint
      cases lx <;> cases ly <;> first | (exact absurd rfl hl) | (simp; omega)
    · go_enter Tryz.func190, Tryz.ntmps190
      go_wp2_with fail
      go_quiet (fail)
      go_wp2_with fail
      refine (HB.out _ (Hx.out.drewN _) (Hy.out.drewN _)).mono ?_
      rintro e w1 ⟨b, rfl, hc, hg⟩
      have hb0 : b < 0 := by have := hc.1; omega
      clear hc
      go_wp2_with fail
      have hyw : WB w1 gy ly (nw Y) (fun j => (wd Y j : Int)) := ((Hy.out.drewN _).grow hg).1
      have hxw : WB w1 gx lx (nw X) (fun j => (wd X j : Int)) := ((Hx.out.drewN _).grow hg).1
      refine wp_load_row 136 _ rfl gy rfl 136 _ _ _ hyw Tryz.underlying136 rfl (by kernel_rfl) ?_
      go_wp2_with fail
      have hz := WB.new' w1
      have hx2 := hxw.alloc (.cells Tryz.zeroCells136 136)
      have hgz : gx ≠ w1.heap.size := Nat.ne_of_lt hxw.lt
      have hsz : w.heap.size ≤ w1.heap.size := hg.size
      have G1 : Gr w (w1.alloc (.cells Tryz.zeroCells136 136)) := (((Gr.refl w).drewN _).trans hg).alloc _
      rw [store_wide hz]
      have hz2 : WB _ w1.heap.size ly (nw Y) (fun j => (wd Y j : Int)) := hz.row
      have F2 : Fr w1.heap.size _ _ := (Fr.refl w1.heap.size (w1.alloc (.cells Tryz.zeroCells136 136))).row (wcells ly (nw Y) (fun j => (wd Y j : Int)))
      have hx3 := hx2.fr F2 hgz
      have G2 := G1.fr F2 hsz
      clear hz hx2 hxw hyw G1 F2
      generalize hw2 : World.setRow _ w1.heap.size _ = w2 at *
      generalize w1.heap.size = gz at *
      have HC := Lib.hid (carry_loop w2 gz gx ly lx Y X (-1) 0 (Y - X) ⟨hz2, Hy.out.2⟩ ⟨hx3, Hx.out.2⟩ hgz (by have := Hx.out.bd; omega) (by decide) (by decide) (by simp; omega) (by have := Hy.out.2; omega))
      clear hw2 hg
      go_wp2_with fail
      refine HC.out.mono ?_
      rintro e w3 ⟨rfl, hi, hf⟩
      have hx4 := hx3.fr hf hgz
      have G3 := G2.fr hf hsz
      go_wp2_with fail
      refine wp_load_row 136 _ rfl gz rfl 136 _ _ _ hi.1 Tryz.underlying136 rfl (by kernel_rfl) ?_
      go_wp2_with fail
      rw [store_wide hx4]
      go_wp2_with fail
      go_end0
      refine ⟨rfl, ⟨ly, Y - X, ⟨hx4.row, hi.2⟩, ?_⟩, (Fr.of G3.b).row _⟩
      unfold wint
      cases lx <;> cases ly <;> first | (exact absurd rfl hl) | (simp; omega)
end Go.Proofs.YtlmdpamehhcblaaGreatDoor
