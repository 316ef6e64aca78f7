import Derived.Test.YtlmdpamehhcblaaGreatDoorLb
/- Contracts of the lexer: length, word, number, Word, Number. -/
namespace Go.Proofs.YtlmdpamehhcblaaGreatDoor
open Go.RowKit Go.Shelf
open YtlmdpamehhcblaaGreatDoorD (isDig isLet cls marks spanN)

theorem run_c (w : World) (s : Value) (v : Value) (h1 : s.oneCell' = true) (h2 : v.oneCell' = true) :
    Calls Tryz.prog 232 #[s, v] w fun e w' => e = .returned (.func (.func 260) #[] #[.pointer (some ⟨w.heap.size, 0, none⟩), .pointer (some ⟨w.heap.size + 1, 0, none⟩)]) ∧ w' = (w.alloc (.cells #[s] 9)).alloc (.cells #[v] 197) := by
  go_enter Tryz.func232, Tryz.ntmps232
  go_wp2_with fail
  go_ret
  exact ⟨rfl, rfl⟩
theorem box_new (W : World) (v : Value) (t : TypeId) : (W.alloc (.cells #[v] t)).cell? ⟨W.heap.size, 0, none⟩ = some v ∧ (W.alloc (.cells #[v] t)).frozen? ⟨W.heap.size, 0, none⟩ = false := by
  have h : (W.alloc (.cells #[v] t)).heap[W.heap.size]? = some (.cells #[v] t) := heap_alloc_new W _
  constructor
  · unfold World.cell?; rw [h]; rfl
  · unfold World.frozen?; rw [h]; rfl
theorem box_below {w w' : World} {p : Addr} {v : Value} {b : Nat} (k : Below b w w') (hp : p.block < b) (h : w.cell? p = some v ∧ w.frozen? p = false) : w'.cell? p = some v ∧ w'.frozen? p = false :=
  ⟨(k.cell hp).trans h.1, by rw [k.frozen hp]; exact h.2⟩
set_option maxRecDepth 100000 in
set_option maxHeartbeats 2000000 in
theorem length_c (w : World) (g c : Nat) (l : List Nat) (s : List UInt8) (hs : s.length ≤ 4611686018427387904) (hl : l.length ≤ 100) (hN : NatsAt w g l) (hg : g < w.heap.size) :
    Calls Tryz.prog 193 #[.string (bs s), .slice (some ⟨g, 0, none⟩) l.length c] w fun e w' => e = .returned (.int .i64 (spanN l s : Nat)) ∧ Gr w w' := by
  refine (callsIn_wide (n := 5)).1 ?_
  refine callsIn_of_wp_marks Tryz.func193 rfl trivial ?_ rfl
  simp only [Tryz.ntmps193, List.size_toArray, List.length_cons, List.length_nil, Nat.reduceAdd, Nat.reduceSub, Array.replicate_succ, Array.replicate_zero, List.push_toArray, List.append_toArray, List.nil_append, List.cons_append]
  gi_wp2_with (refine ⟨trivial, ?_⟩; gi_at_call 232; refine (callsIn_wide.2 (run_c _ _ _ rfl rfl)).mono ?_; rintro e w' ⟨rfl, rfl⟩)
  have hs0 := box_new w (.int .i64 0) 3
  have hb1 := box_new (w.alloc (.cells #[.int .i64 0] 3)) (.string (bs s)) 9
  have hb2 := box_new ((w.alloc (.cells #[.int .i64 0] 3)).alloc (.cells #[.string (bs s)] 9)) (.slice (some ⟨g, 0, none⟩) l.length c) 197
  simp only [World.size_alloc] at hb1 hb2
  have G1 : Gr w (w.alloc (.cells #[.int .i64 0] 3)) := (Gr.refl w).alloc _
  have B1 : Below (w.heap.size + 1) (w.alloc (.cells #[.int .i64 0] 3)) ((w.alloc (.cells #[.int .i64 0] 3)).alloc (.cells #[.string (bs s)] 9)) := (Below.refl _ _).alloc (by simp) _
  have B2 : Below (w.heap.size + 1 + 1) ((w.alloc (.cells #[.int .i64 0] 3)).alloc (.cells #[.string (bs s)] 9)) (((w.alloc (.cells #[.int .i64 0] 3)).alloc (.cells #[.string (bs s)] 9)).alloc (.cells #[.slice (some ⟨g, 0, none⟩) l.length c] 197)) := (Below.refl _ _).alloc (by simp) _
  have s0 := box_below B2 (by simp; omega) (box_below B1 (by simp) hs0)
  have s1 := box_below B2 (by simp) hb1
  have G3 : Gr w (((w.alloc (.cells #[.int .i64 0] 3)).alloc (.cells #[.string (bs s)] 9)).alloc (.cells #[.slice (some ⟨g, 0, none⟩) l.length c] 197)) := (G1.alloc _).alloc _
  have hRun : RunAt (((w.alloc (.cells #[.int .i64 0] 3)).alloc (.cells #[.string (bs s)] 9)).alloc (.cells #[.slice (some ⟨g, 0, none⟩) l.length c] 197)) (w.heap.size + 1) (w.heap.size + 1 + 1) g c s l := ⟨s1.1, hb2.1, hN.gr G3⟩
  have hsz3 : (((w.alloc (.cells #[.int .i64 0] 3)).alloc (.cells #[.string (bs s)] 9)).alloc (.cells #[.slice (some ⟨g, 0, none⟩) l.length c] 197)).heap.size = w.heap.size + 1 + 1 + 1 := by simp
  generalize (((w.alloc (.cells #[.int .i64 0] 3)).alloc (.cells #[.string (bs s)] 9)).alloc (.cells #[.slice (some ⟨g, 0, none⟩) l.length c] 197)) = w3 at *
  clear hs0 hb1 hb2 B1 B2 s1 G1
  refine wpIn_rangeFunc_ownF rfl (by omega) (gf := 260) (lb := #[.pointer (some ⟨w.heap.size + 1, 0, none⟩), .pointer (some ⟨w.heap.size + 1 + 1, 0, none⟩)]) rfl trivial (enters_of Tryz.func260 (by kernel_rfl) rfl)
    (runs 4 (by omega) w3 (w.heap.size + 1) (w.heap.size + 1 + 1) g c s l hs hl (by omega) (by omega) (by omega) hRun) Kp3.trans (Kp3.put (by omega) (by omega) (by omega)) (Below.refl _ _) (fun _ => rfl)
    (fun pre W => (W.cell? ⟨w.heap.size, 0, none⟩ = some (.int .i64 (pre.length : Nat)) ∧ W.frozen? ⟨w.heap.size, 0, none⟩ = false) ∧ Below w.heap.size w W)
    (fun _ _ _ => False)
    (OwnFrom.and (Own.from (fun s A B row hs hg hr => ⟨cell_kept hs.1 hg hr, (frozen_kept hs.1 hg hr).trans hs.2⟩) _) (ownFrom_below (Nat.le_refl _) (by omega)))
    (fun _ _ _ _ _ hs _ _ => hs)
    ⟨s0, G3⟩
    (fun x => { tmps := #[.string (bs s), .slice (some ⟨g, 0, none⟩) l.length c, undef, undef, .int .i64 0, .pointer (some ⟨w.heap.size, 0, none⟩), .string (bs s), .slice (some ⟨g, 0, none⟩) l.length c, .func (.func 260) #[] #[.pointer (some ⟨w.heap.size + 1, 0, none⟩), .pointer (some ⟨w.heap.size + 1 + 1, 0, none⟩)], .int .u8 (x.toNat : Int), undef, undef, undef], defers := [] }) ?assign ?body ?done ?stop
  case assign =>
    intro l x W K hK
    gi_wp2
    simpa using hK
  case body =>
    rintro lo pre x W ⟨⟨hc, hf⟩, hB⟩ hlen
    gi_wp2_with (simp only [Oper.semAt_some, ne_eq, reduceCtorEq, not_false_eq_true, implies_true]; go_simp)
    have hw : IntKind.i64.wrap ((pre.length : Int) + 1) = ((pre.length + 1 : Nat) : Int) := (IntWalk.i64_in _ (by omega)).trans (by omega)
    rw [hw]
    refine ⟨KeepsOthers.setCell _ _ _, fun k hk => Below.heap_setCell _ _ _ _ (by show k ≠ w.heap.size; omega), ⟨?_, by rw [World.frozen?_setCell]; exact hf⟩, hB.setCell (p := ⟨w.heap.size, 0, none⟩) (Nat.le_refl _) _⟩
    rw [List.length_append, List.length_cons, List.length_nil]
    exact World.cell?_setCell_same' _ _ _ (by rw [hc]; rfl)
  case done =>
    rintro D ys W hD rfl ⟨⟨hc, _⟩, hB⟩ hK
    have hmin : min (spanN l s) s.length = spanN l s := Nat.min_eq_left (YtlmdpamehhcblaaGreatDoorD.spanN_le _ _)
    gi_wp2
    refine ⟨by simp, .inl ⟨_, _, rfl, run_takeDeferred hK, ?_⟩⟩
    exact ⟨_, results_tmp rfl _ _ _, rfl, hB.trans (belowK_b (w := w) (Nat.le_refl _) W D _ _ (by omega) hK rfl rfl)⟩
  case stop =>
    rintro D c pre W _ _ h _
    exact h.elim
theorem news_nats (w : World) (l : List Nat) (t : TypeId) : NatsAt (w.alloc (.cells (l.map fun n => Value.int .i64 (n : Nat)).toArray t)) w.heap.size l := by
  intro j hj
  have h : (w.alloc (.cells (l.map fun n => Value.int .i64 (n : Nat)).toArray t)).heap[w.heap.size]? = some (.cells (l.map fun n => Value.int .i64 (n : Nat)).toArray t) := heap_alloc_new w _
  unfold World.cell?; rw [h]
  show (l.map fun n => Value.int .i64 (n : Nat)).toArray[j]? = _
  rw [List.getElem?_toArray, List.getElem?_map, List.getElem?_eq_getElem hj, List.getD_eq_getElem?_getD, List.getElem?_eq_getElem hj]; rfl
open YtlmdpamehhcblaaGreatDoorD (wlen nlen nfront werr nerr)
theorem get0_cls (s : List UInt8) (h : 0 < (bs s).size) : (bs s)[0] = s.getD 0 0 := by
  cases s with
  | nil => simp [bs_size] at h
  | cons c r => rfl
theorem class0_c (s : List UInt8) (hz : 0 < (bs s).size) (k : Nat) (h : cls (s.getD 0 0) = k) (w : World) : Calls Tryz.prog 121 #[.int .u8 (((bs s)[0]'hz).toNat : Int)] w fun e w' => e = .returned (.int .i64 k) ∧ w' = w := by
  have := class_c w ((bs s)[0]'hz)
  rwa [show cls ((bs s)[0]'hz) = k by rw [get0_cls s hz, h]] at this
set_option maxHeartbeats 1000000 in
theorem word_c (w : World) (s : List UInt8) (hs : s.length ≤ 4611686018427387904) : Calls Tryz.prog 115 #[.string (bs s)] w fun e w' => e = .returned (.int .i64 (wlen s : Nat)) ∧ Gr w w' := by
  have hsz := bs_size s
  by_cases h0 : s = []
  · subst h0
    have e : wlen [] = 0 := by decide
    rw [e]
    have hE : (bs []).toList.isEmpty = true := by rw [bs_toList]; rfl
    go_enter Tryz.func115, Tryz.ntmps115
    go_wp2_with fail
    go_ret
    exact ⟨rfl, Gr.refl w⟩
  · have hp : 0 < s.length := List.length_pos_iff.2 h0
    have hz : 0 < (bs s).size := by omega
    have hE : (bs s).toList.isEmpty = false := by rw [bs_toList]; simp [h0]
    have HL := Lib.hid (fun w => length_c (w.alloc (.cells #[.int .i64 1, .int .i64 2, .int .i64 3] 3)) w.heap.size 3 [1, 2, 3] s hs (by decide) (news_nats w [1, 2, 3] 3) (by simp))
    by_cases h1 : cls (s.getD 0 0) = 1
    · have e : wlen s = spanN [1, 2, 3] s := by unfold YtlmdpamehhcblaaGreatDoorD.wlen; rw [if_pos h1]
      rw [e]
      have HC := Lib.hid (class0_c s hz 1 h1 w)
      generalize spanN [1, 2, 3] s = r at *
      clear h0 e
      go_enter Tryz.func115, Tryz.ntmps115
      go_wp2_with fail
      refine HC.out.mono ?_
      rintro e w1 ⟨rfl, rfl⟩
      go_wp2_with fail
      refine (HL.out _).mono ?_
      rintro e w1 ⟨rfl, hg1⟩
      go_wp2_with fail
      go_ret
      exact ⟨rfl, ((Gr.refl _).alloc _).trans hg1⟩
    · have e : wlen s = 0 := by unfold YtlmdpamehhcblaaGreatDoorD.wlen; rw [if_neg h1]
      rw [e]
      have HC := Lib.hid (class0_c s hz _ rfl w)
      have h1' : ¬ ((cls (s.getD 0 0) : Nat) : Int) = 1 := by omega
      generalize cls (s.getD 0 0) = k at *
      clear h0 e HL
      go_enter Tryz.func115, Tryz.ntmps115
      go_wp2_with fail
      refine HC.out.mono ?_
      rintro e w1 ⟨rfl, rfl⟩
      go_wp2_with fail
      go_ret
      exact ⟨rfl, Gr.refl _⟩
end Go.Proofs.YtlmdpamehhcblaaGreatDoor
