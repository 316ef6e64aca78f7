import Derived.Test.YtlmdpamehhcblaaGreatDoorUe
import Derived.Maps.RangeRun
import Derived.MapKept
import Derived.Test.YtlmdpamehhcblaaGreatDoorUs
/- awake of the statements on units: the chapter's examples. -/
namespace Go.Proofs.YtlmdpamehhcblaaGreatDoor
open Go.RowKit
open Go.Lib (itoa decDigits)
open YtlmdpamehhcblaaGreatDoorD (rtext uexact uparse uformat usum)

theorem setObj_alloc (w : World) (es : Array MapEntry) (c : Nat) (o' : Obj) : (setObj w.heap.size o').run Tryz.prog (w.alloc (.map es c)) = .ok () (w.alloc o') := by
  have hp : ∀ (h : Array Obj) (x y : Obj), (h.push x).setIfInBounds h.size y = h.push y := by
    intro h x y
    apply Array.toList_inj.1
    simp
  simp only [setObj, Sem.run]
  rw [heap_alloc_new]
  show Result.ok () ({ w.alloc (.map es c) with heap := (w.heap.push (.map es c)).setIfInBounds w.heap.size o' } : World) = _
  rw [hp]
  rfl
theorem run_make (t : TypeId) (w : World) : (Instr.makeMap t none).run Tryz.prog w = .ok (.map (some w.heap.size)) (w.alloc (.map #[] 0)) := by
  simp [Instr.makeMap, newObj, Sem.run, Result.andThen]
theorem run_ins (t e : TypeId) (ht : Tryz.prog.underlying t = some (.map 9 e)) (w : World) (es : Array MapEntry) (c : Nat) (s : ByteArray) (v : Value) (hf : Instr.findNow .string (.string s) es.toList 0 = some none) :
    (Instr.mapUpdate t (.map (some w.heap.size)) (.string s) v).run Tryz.prog (w.alloc (.map es c)) = .ok () (w.alloc (.map (es.push ⟨.string s, v, c⟩) (c + 1))) := by
  have h9 : Tryz.prog.underlying 9 = some .string := by kernel_rfl
  have hg : (w.alloc (.map es c)).heap[w.heap.size]? = some (.map es c) := heap_alloc_new w _
  have hs := setObj_alloc w es c (.map (es.push ⟨.string s, v, c⟩) (c + 1))
  have k1 := fun n => MapKept.run_checkKey (P := Tryz.prog) (w := w.alloc (.map es c)) h9 (k := .string s) (by trivial) false n
  have k2 := MapKept.run_findKey (P := Tryz.prog) (w := w.alloc (.map es c)) h9 hf
  have k3 := MapKept.run_getObj_map (P := Tryz.prog) hg
  simp only [Instr.mapUpdate, Sem.run_bind, run_underlying ht, Result.andThen_ok, k1 9999, k2, k3, hs]
def km : List (List UInt8 × Int) := [([49, 50, 46, 53, 32, 109, 109], 12500), ([49, 47, 56, 32, 105, 110], 3175), ([45, 50, 32, 99, 109], -20000)]
def ke : List (List UInt8 × Int) := [([48, 46, 51, 32, 117, 109], 14), ([53], 20), ([48, 53, 32, 109, 109], 4), ([46, 53, 32, 109, 109], 4), ([52, 32, 105, 110], 2)]
/-- The entries of a literal map. -/
def ents (l : List (List UInt8 × Int)) : Array MapEntry := ((List.range l.length).map (fun i => (⟨.string (bs (l.getD i ([], 0)).1), .int .i64 (l.getD i ([], 0)).2, i⟩ : MapEntry))).toArray
theorem len_km : ∀ p ∈ km, p.1.length < 4294967281 := by decide
theorem len_ke : ∀ p ∈ ke, p.1.length < 4294967281 := by decide
theorem parse_km : ∀ p ∈ km, uparse p.1 = .ok p.2 := by
  intro p hp
  simp only [km, List.mem_cons, List.not_mem_nil, or_false] at hp
  rcases hp with rfl | rfl | rfl <;> kernel_rfl
theorem parse_ke : ∀ p ∈ ke, uparse p.1 = .error p.2 := by
  intro p hp
  simp only [ke, List.mem_cons, List.not_mem_nil, or_false] at hp
  rcases hp with rfl | rfl | rfl | rfl | rfl <;> kernel_rfl
/-- An iterator in block r over the literal map in block b; k entries are to come; nothing that was in w has turned. -/
def ItR (l : List (List UInt8 × Int)) (b r : Nat) (w : World) (k : Nat) (wr : World) : Prop :=
  ∃ seen ci, wr.heap[r]? = some (.mapIter (some b) l.length seen ci) ∧ l.length ≤ ci ∧ wr.heap[b]? = some (.map (ents l) l.length) ∧ (leftOf (ents l) seen).size = k ∧ Gr w wr ∧ w.heap.size ≤ r
theorem ItR.gr {l : List (List UInt8 × Int)} {b r k : Nat} {w wr wr' : World} (h : ItR l b r w k wr) (g : Gr wr wr') : ItR l b r w k wr' := by
  obtain ⟨seen, ci, h1, h2, h3, h4, h5, h6⟩ := h
  refine ⟨seen, ci, ?_, h2, ?_, h4, h5.trans g, h6⟩
  · rw [g.b.block r (Array.getElem?_eq_some_iff.1 h1).1]; exact h1
  · rw [g.b.block b (Array.getElem?_eq_some_iff.1 h3).1]; exact h3
theorem ItR.g {l : List (List UInt8 × Int)} {b r k : Nat} {w wr : World} (h : ItR l b r w k wr) : Gr w wr := by
  obtain ⟨_, _, _, _, _, _, h5, _⟩ := h; exact h5
theorem ents_mem {l : List (List UInt8 × Int)} {e : MapEntry} (h : e ∈ (ents l).toList) : e.born < l.length ∧ ∃ p ∈ l, e.key = .string (bs p.1) ∧ e.val = .int .i64 p.2 := by
  unfold ents at h
  rw [List.toList_toArray, List.mem_map] at h
  obtain ⟨i, hi, rfl⟩ := h
  rw [List.mem_range] at hi
  refine ⟨hi, l.getD i ([], 0), ?_, rfl, rfl⟩
  rw [List.getD_eq_getElem?_getD, List.getElem?_eq_getElem hi]
  exact List.getElem_mem hi
theorem ents_nodup (l : List (List UInt8 × Int)) : ((ents l).toList.map (·.born)).Nodup := by
  unfold ents
  rw [List.toList_toArray, List.map_map]
  have : ((fun x : MapEntry => x.born) ∘ fun i => (⟨.string (bs (l.getD i ([], 0)).1), .int .i64 (l.getD i ([], 0)).2, i⟩ : MapEntry)) = id := rfl
  rw [this, List.map_id]
  exact List.nodup_range
theorem heap_setB (w : World) (r : Nat) (o : Obj) (h : r < w.heap.size) (i : Nat) : (Go.ChangeMaps.setBlock w r o).heap[i]? = if i = r then some o else w.heap[i]? := by
  unfold Go.ChangeMaps.setBlock
  simp only [Array.getElem?_setIfInBounds]
  by_cases e : r = i
  · subst e; simp [h]
  · rw [if_neg e, if_neg (fun x => e x.symm)]
theorem ItR.next {l : List (List UInt8 × Int)} {b r k : Nat} {w wr : World} (h : ItR l b r w k wr) (ty : TypeId) :
    (k = 0 ∧ (Instr.next (.pointer (some ⟨r, 0, none⟩)) false ty).run Tryz.prog wr = .ok (.tuple #[.bool false]) wr) ∨
    ∃ p ∈ l, ∃ w' k', (Instr.next (.pointer (some ⟨r, 0, none⟩)) false ty).run Tryz.prog wr = .ok (.tuple #[.bool true, .string (bs p.1), .int .i64 p.2]) w' ∧
      (Instr.entry (.pointer (some ⟨r, 0, none⟩))).run Tryz.prog w' = .ok (.tuple #[.string (bs p.1), .int .i64 p.2]) w' ∧ k' < k ∧ ItR l b r w k' w' := by
  obtain ⟨seen, ci, h1, h2, h3, h4, h5, h6⟩ := h
  have hlt : r < wr.heap.size := (Array.getElem?_eq_some_iff.1 h1).1
  have hbr : b ≠ r := by
    rintro rfl
    rw [h1] at h3; cases h3
  rcases run_next_at (P := Tryz.prog) wr ty r b l.length ci seen (ents l) l.length h1 h3 (fun x hx => (ents_mem hx).1) h2 with ⟨e1, e2⟩ | ⟨e, he, w1, hw1, e2⟩
  · exact .inl ⟨h4.symm.trans e1, e2⟩
  · right
    have hm := mem_left he
    obtain ⟨hb1, p, hp, k1, k2⟩ := ents_mem hm.1
    have hsh := left_shrinks (ents l) seen e he
    have hg1 : Gr w w1 := by rcases hw1 with rfl | rfl; exact h5; exact h5.drew
    have hh : w1.heap = wr.heap := by rcases hw1 with rfl | rfl <;> rfl
    have hlt1 : r < w1.heap.size := by rw [hh]; exact hlt
    have hr' : (Go.ChangeMaps.setBlock w1 r (.mapIter (some b) l.length (seen.push e.born) l.length)).heap[r]? = some (.mapIter (some b) l.length (seen.push e.born) l.length) := by rw [heap_setB _ _ _ hlt1, if_pos rfl]
    have hb' : (Go.ChangeMaps.setBlock w1 r (.mapIter (some b) l.length (seen.push e.born) l.length)).heap[b]? = some (.map (ents l) l.length) := by rw [heap_setB _ _ _ hlt1, if_neg hbr, hh]; exact h3
    have en := run_entry_at (P := Tryz.prog) _ r b l.length seen (ents l) l.length e hr' hb' hm.1 (ents_nodup l)
    rw [k1, k2] at e2 en
    refine ⟨p, hp, _, _, e2, en, by rw [← h4]; exact hsh, seen.push e.born, l.length, hr', Nat.le_refl _, hb', rfl, ?_, h6⟩
    refine ⟨hg1.b.os, hg1.b.tape, hg1.b.output, ?_, fun i hi => ?_⟩
    · show _ ≤ (w1.heap.setIfInBounds r _).size
      rw [Array.size_setIfInBounds]; exact hg1.size
    · rw [heap_setB _ _ _ hlt1, if_neg (by omega)]; exact hg1.b.block i hi
theorem ItR.start (l : List (List UInt8 × Int)) (w : World) : ItR l w.heap.size (w.heap.size + 1) w (leftOf (ents l) #[]).size ((w.alloc (.map (ents l) l.length)).alloc (.mapIter (some w.heap.size) l.length #[] l.length)) :=
  ⟨#[], l.length, heap_alloc2_new w _ _, Nat.le_refl _, heap_alloc2_old w _ _, rfl, ((Gr.refl w).alloc _).alloc _, by omega⟩
theorem ex03 : exactV (uexact [48, 46, 51, 32, 117, 109]) = .tuple #[.string ⟨#[51, 47, 49, 48]⟩, .int .i64 0] := by kernel_rfl
theorem sum3 : parseV (usum [[49, 47, 51, 32, 109, 109], [49, 47, 51, 32, 109, 109], [49, 47, 51, 32, 109, 109]]) = .tuple #[.int .i64 1000, .int .i64 0] := by kernel_rfl
theorem sum3_c (w : World) (he : Env w) (g : Nat) (h0 : w.cell? ⟨g, 0, none⟩ = some (.string (bs [49, 47, 51, 32, 109, 109]))) (h1 : w.cell? ⟨g, 1, none⟩ = some (.string (bs [49, 47, 51, 32, 109, 109]))) (h2 : w.cell? ⟨g, 2, none⟩ = some (.string (bs [49, 47, 51, 32, 109, 109]))) :
    Calls Tryz.prog 32 #[.slice (some ⟨g, 0, none⟩) 3 3] w fun e w' => e = .returned (.tuple #[.int .i64 1000, .int .i64 0]) ∧ Gr w w' := by
  have := Sum_c w he (some ⟨g, 0, none⟩) g 0 3 [[49, 47, 51, 32, 109, 109], [49, 47, 51, 32, 109, 109], [49, 47, 51, 32, 109, 109]] (fun _ => rfl) (fun j hj => by
    match j, hj with
    | 0, _ => exact h0
    | 1, _ => exact h1
    | 2, _ => exact h2) (by decide) (by decide) (fun _ j q h => YtlmdpamehhcblaaGreatDoorD.usum_Q (by decide) j q h)
  rw [sum3] at this
  exact this
theorem new5 (w : World) (a b c d e : Value) (t : TypeId) : (w.alloc (.cells #[a, b, c, d, e] t)).cell? ⟨w.heap.size, 0, none⟩ = some a ∧ (w.alloc (.cells #[a, b, c, d, e] t)).cell? ⟨w.heap.size, 1, none⟩ = some b ∧ (w.alloc (.cells #[a, b, c, d, e] t)).cell? ⟨w.heap.size, 2, none⟩ = some c ∧ (w.alloc (.cells #[a, b, c, d, e] t)).cell? ⟨w.heap.size, 3, none⟩ = some d ∧ (w.alloc (.cells #[a, b, c, d, e] t)).cell? ⟨w.heap.size, 4, none⟩ = some e := by
  have h : (w.alloc (.cells #[a, b, c, d, e] t)).heap[w.heap.size]? = some (.cells #[a, b, c, d, e] t) := heap_alloc_new w _
  refine ⟨?_, ?_, ?_, ?_, ?_⟩ <;> (unfold World.cell?; rw [h]; rfl)
theorem fmt0 : uformat 3175 0 = .ok [51, 49, 55, 53, 32, 117, 109] := by kernel_rfl
theorem fmt1 : uformat 3175 1 = .ok [51, 46, 49, 55, 53, 32, 109, 109] := by kernel_rfl
theorem fmt2 : uformat 3175 2 = .ok [48, 46, 51, 49, 55, 53, 32, 99, 109] := by kernel_rfl
theorem fmt3 : uformat 3175 3 = .ok [49, 47, 56, 32, 105, 110] := by kernel_rfl
theorem fmt4 : uformat 3175 4 = .ok [49, 50, 53, 32, 116, 104, 111, 117] := by kernel_rfl
set_option maxHeartbeats 4000000 in
set_option maxRecDepth 20000 in
theorem awake13_c (w : World) (he : Env w) : Calls Tryz.prog 20 #[] w fun e w' => e = .returned (.bool true) ∧ Gr w w' := by
  have HE := Lib.hid he
  have mk98 := run_make 98
  have mk99 := run_make 99
  have i99 := fun w es c s v hf => run_ins 99 _ Tryz.underlying99 w es c s v hf
  have i98 := fun w es c s v hf => run_ins 98 _ Tryz.underlying98 w es c s v hf
  have F0 := Lib.hid (fun w he => by have := Format_c w he 3175 0; rw [fmt0] at this; exact this : ∀ w, Env w → Calls Tryz.prog 29 #[.int .i64 3175, .int .i64 0] w fun e w' => e = .returned (.tuple #[.string ⟨#[51, 49, 55, 53, 32, 117, 109]⟩, .int .i64 0]) ∧ Gr w w')
  have F1 := Lib.hid (fun w he => by have := Format_c w he 3175 1; rw [fmt1] at this; exact this : ∀ w, Env w → Calls Tryz.prog 29 #[.int .i64 3175, .int .i64 1] w fun e w' => e = .returned (.tuple #[.string ⟨#[51, 46, 49, 55, 53, 32, 109, 109]⟩, .int .i64 0]) ∧ Gr w w')
  have F2 := Lib.hid (fun w he => by have := Format_c w he 3175 2; rw [fmt2] at this; exact this : ∀ w, Env w → Calls Tryz.prog 29 #[.int .i64 3175, .int .i64 2] w fun e w' => e = .returned (.tuple #[.string ⟨#[48, 46, 51, 49, 55, 53, 32, 99, 109]⟩, .int .i64 0]) ∧ Gr w w')
  have F3 := Lib.hid (fun w he => by have := Format_c w he 3175 3; rw [fmt3] at this; exact this : ∀ w, Env w → Calls Tryz.prog 29 #[.int .i64 3175, .int .i64 3] w fun e w' => e = .returned (.tuple #[.string ⟨#[49, 47, 56, 32, 105, 110]⟩, .int .i64 0]) ∧ Gr w w')
  have F4 := Lib.hid (fun w he => by have := Format_c w he 3175 4; rw [fmt4] at this; exact this : ∀ w, Env w → Calls Tryz.prog 29 #[.int .i64 3175, .int .i64 4] w fun e w' => e = .returned (.tuple #[.string ⟨#[49, 50, 53, 32, 116, 104, 111, 117]⟩, .int .i64 0]) ∧ Gr w w')
  have FX := Lib.hid (fun w he => by have := Exact_c w he [48, 46, 51, 32, 117, 109] (by decide); rw [ex03] at this; exact this : ∀ w, Env w → Calls Tryz.prog 21 #[.string ⟨#[48, 46, 51, 32, 117, 109]⟩] w fun e w' => e = .returned (.tuple #[.string ⟨#[51, 47, 49, 48]⟩, .int .i64 0]) ∧ Gr w w')
  go_enter Tryz.func20, Tryz.ntmps20
  go_wp2_with fail
  rw [i98 _ _ _ _ _ (by kernel_rfl)]
  go_wp2_with fail
  rw [i98 _ _ _ _ _ (by kernel_rfl)]
  go_wp2_with fail
  rw [i98 _ _ _ _ _ (by kernel_rfl)]
  go_wp2_with fail
  have rg : ∀ (X : Array MapEntry) (c : Nat), X = ents km → c = 3 → (Instr.range 98 (.map (some w.heap.size))).run Tryz.prog (w.alloc (.map X c)) = .ok (.pointer (some ⟨w.heap.size + 1, 0, none⟩)) ((w.alloc (.map (ents km) km.length)).alloc (.mapIter (some w.heap.size) km.length #[] km.length)) := by
    rintro X c rfl rfl
    have h := run_range_map (P := Tryz.prog) (w.alloc (.map (ents km) km.length)) 98 9 _ w.heap.size (ents km) km.length Tryz.underlying98 (heap_alloc_new w _)
    rw [alloc_size] at h
    exact h
  rw [rg _ _ ?hx ?hc]
  case hx => rfl
  case hc => rfl
  have I0 := Lib.hid (ItR.start km w)
  clear rg
  generalize ((w.alloc (.map (ents km) km.length)).alloc (.mapIter (some w.heap.size) km.length #[] km.length)) = w0 at *
  go_wp2_with fail
  generalize (leftOf (ents km) #[]).size = n0 at *
  go_loopg [] n0 (fun k wr => Aside (ItR km w.heap.size (w.heap.size + 1) w k wr))
  case atStart => exact I0.out
  case round =>
    have A : Aside (ItR km w.heap.size (w.heap.size + 1) w gk wr) := hrel
    go_wp2_with fail
    rcases A.out.next 0 with ⟨_, e⟩ | ⟨p, hp, w', k', e1, e2, hlt, I⟩
    · rw [e]
      have G1 := Lib.hid A.out.g
      clear A e I0
      go_wp2_with fail
      rw [i99 _ _ _ _ _ (by kernel_rfl)]
      go_wp2_with fail
      rw [i99 _ _ _ _ _ (by kernel_rfl)]
      go_wp2_with fail
      rw [i99 _ _ _ _ _ (by kernel_rfl)]
      go_wp2_with fail
      rw [i99 _ _ _ _ _ (by kernel_rfl)]
      go_wp2_with fail
      rw [i99 _ _ _ _ _ (by kernel_rfl)]
      go_wp2_with fail
      have rg : ∀ (X : Array MapEntry) (c : Nat), X = ents ke → c = 5 → (Instr.range 99 (.map (some wr.heap.size))).run Tryz.prog (wr.alloc (.map X c)) = .ok (.pointer (some ⟨wr.heap.size + 1, 0, none⟩)) ((wr.alloc (.map (ents ke) ke.length)).alloc (.mapIter (some wr.heap.size) ke.length #[] ke.length)) := by
        rintro X c rfl rfl
        have h := run_range_map (P := Tryz.prog) (wr.alloc (.map (ents ke) ke.length)) 99 9 _ wr.heap.size (ents ke) ke.length Tryz.underlying99 (heap_alloc_new wr _)
        rw [alloc_size] at h
        exact h
      rw [rg _ _ ?hx ?hc]
      case hx => rfl
      case hc => rfl
      have I1 := Lib.hid (ItR.start ke wr)
      clear rg
      generalize ((wr.alloc (.map (ents ke) ke.length)).alloc (.mapIter (some wr.heap.size) ke.length #[] ke.length)) = w1 at *
      go_wp2_with fail
      generalize (leftOf (ents ke) #[]).size = n1 at *
      go_loopg [] n1 (fun k wr2 => Aside (ItR ke wr.heap.size (wr.heap.size + 1) wr k wr2))
      case atStart => exact I1.out
      case round =>
        have A := hrel
        go_wp2_with fail
        rcases A.out.next 0 with ⟨_, e⟩ | ⟨p, hp, w', k', e1, e2, hlt, I⟩
        · rw [e]
          have G2 := Lib.hid (G1.out.trans A.out.g)
          clear A e I1 G1
          go_wp2_with fail
          generalize ({ data := #[51, 49, 55, 53, 32, 117, 109] } : ByteArray) = s0 at *
          generalize ({ data := #[51, 46, 49, 55, 53, 32, 109, 109] } : ByteArray) = s1 at *
          generalize ({ data := #[48, 46, 51, 49, 55, 53, 32, 99, 109] } : ByteArray) = s2 at *
          generalize ({ data := #[49, 47, 56, 32, 105, 110] } : ByteArray) = s3 at *
          generalize ({ data := #[49, 50, 53, 32, 116, 104, 111, 117] } : ByteArray) = s4 at *
          have N := new5 wr (.string s0) (.string s1) (.string s2) (.string s3) (.string s4) 9
          have GB := Lib.hid (G2.out.alloc (.cells #[.string s0, .string s1, .string s2, .string s3, .string s4] 9))
          clear G2
          generalize (wr.alloc (.cells #[.string s0, .string s1, .string s2, .string s3, .string s4] 9)) = wB at *
          go_loopg [55] 5 (fun k i wr => ∃ j : Nat, k + j = 5 ∧ i = .int .i64 j ∧ Aside (Gr wB wr))
          case atStart => exact ⟨0, rfl, rfl, Gr.refl _⟩
          case round =>
            obtain ⟨j, hj, rfl, A⟩ := hrel
            match j, hj with
            | 0, hj =>
              have cc := cell_gr A.out N.1
              go_wp2_with fail
              refine (F0.out _ (HE.out.gr (GB.out.trans A.out))).mono ?_
              rintro e w2 ⟨rfl, hg⟩
              have A2 : Aside _ := A.out.trans hg
              go_wp2_with fail
              go_roundg 4
              case measure => omega
              case rel => exact ⟨1, by omega, by go_num, A2.out⟩
            | 1, hj =>
              have cc := cell_gr A.out N.2.1
              go_wp2_with fail
              refine (F1.out _ (HE.out.gr (GB.out.trans A.out))).mono ?_
              rintro e w2 ⟨rfl, hg⟩
              have A2 : Aside _ := A.out.trans hg
              go_wp2_with fail
              go_roundg 3
              case measure => omega
              case rel => exact ⟨2, by omega, by go_num, A2.out⟩
            | 2, hj =>
              have cc := cell_gr A.out N.2.2.1
              go_wp2_with fail
              refine (F2.out _ (HE.out.gr (GB.out.trans A.out))).mono ?_
              rintro e w2 ⟨rfl, hg⟩
              have A2 : Aside _ := A.out.trans hg
              go_wp2_with fail
              go_roundg 2
              case measure => omega
              case rel => exact ⟨3, by omega, by go_num, A2.out⟩
            | 3, hj =>
              have cc := cell_gr A.out N.2.2.2.1
              go_wp2_with fail
              refine (F3.out _ (HE.out.gr (GB.out.trans A.out))).mono ?_
              rintro e w2 ⟨rfl, hg⟩
              have A2 : Aside _ := A.out.trans hg
              go_wp2_with fail
              go_roundg 1
              case measure => omega
              case rel => exact ⟨4, by omega, by go_num, A2.out⟩
            | 4, hj =>
              have cc := cell_gr A.out N.2.2.2.2
              go_wp2_with fail
              refine (F4.out _ (HE.out.gr (GB.out.trans A.out))).mono ?_
              rintro e w2 ⟨rfl, hg⟩
              have A2 : Aside _ := A.out.trans hg
              go_wp2_with fail
              go_roundg 0
              case measure => omega
              case rel => exact ⟨5, by omega, by go_num, A2.out⟩
            | j + 5, hj =>
              have hj0 : j = 0 := by omega
              subst hj0
              go_wp2_with fail
              have GC := GB.out.trans A.out
              refine (FX.out _ (HE.out.gr GC)).mono ?_
              rintro e w2 ⟨rfl, hg⟩
              have GD := GC.trans hg
              clear GC A hg
              go_wp2_with fail
              have N3 := new3 w2 (.string (bs [49, 47, 51, 32, 109, 109])) (.string (bs [49, 47, 51, 32, 109, 109])) (.string (bs [49, 47, 51, 32, 109, 109])) 9
              refine (sum3_c _ (HE.out.gr (GD.alloc _)) _ N3.1 N3.2.1 N3.2.2).mono ?_
              rintro e w3 ⟨rfl, hg⟩
              go_wp2_with fail
              go_ret
              exact ⟨rfl, (GD.alloc _).trans hg⟩
        · have HP := Lib.hid (Parse_c w' (HE.out.gr (G1.out.trans I.g)) p.1 (len_ke p hp))
          rw [parse_ke p hp] at HP
          simp only [parseV] at HP
          have HI := Lib.hid I
          clear hp I A
          generalize bs p.1 = s at *
          generalize p.2 = v at *
          rw [e1]
          go_wp2_with fail
          refine HP.out.mono ?_
          rintro e w2 ⟨rfl, hg⟩
          have A2 : Aside _ := HI.out.gr hg
          clear e1 e2 hg HI
          go_wp2_with fail
          go_roundg k'
          case measure => exact hlt
          case rel => exact A2.out
    · have HP := Lib.hid (Parse_c w' (HE.out.gr I.g) p.1 (len_km p hp))
      rw [parse_km p hp] at HP
      simp only [parseV] at HP
      have HI := Lib.hid I
      clear hp I A
      generalize bs p.1 = s at *
      generalize p.2 = v at *
      rw [e1]
      go_wp2_with fail
      refine HP.out.mono ?_
      rintro e w2 ⟨rfl, hg⟩
      have A2 : Aside (ItR km w.heap.size (w.heap.size + 1) w k' w2) := HI.out.gr hg
      clear e1 e2 hg HI
      go_wp2_with fail
      go_roundg k'
      case measure => exact hlt
      case rel => exact A2.out
