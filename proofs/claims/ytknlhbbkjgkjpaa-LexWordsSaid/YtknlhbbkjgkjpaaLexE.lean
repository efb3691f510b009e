/- The walk of Words. -/
import Derived.Test.YtknlhbbkjgkjpaaLexD
import Derived.Lib.MapLaws
namespace Go.Proofs.Ytknlhbbkjgkjpaa
open Go Go.RowKit

def putO (w : World) (r : Nat) (o : Obj) : World := { w with heap := w.heap.setIfInBounds r o }
theorem putO_same (w : World) {r : Nat} {o : Obj} (h : r < w.heap.size) : (putO w r o).heap[r]? = some o := by simp [putO, h]
theorem putO_other (w : World) {r k : Nat} {o : Obj} (h : k ≠ r) : (putO w r o).heap[k]? = w.heap[k]? := by
  simp [putO, Array.getElem?_setIfInBounds_ne (Ne.symm h)]
theorem putO_keep (w : World) (r : Nat) (o : Obj) : Keep (fun k => k = r) w (putO w r o) := ⟨rfl, rfl, rfl, by simp [putO], fun k _ hk => putO_other w hk⟩

theorem run_next_at {P : Program} (W : World) (ib : Nat) (s : ByteArray) (pos : Nat) (ty : TypeId) (hh : W.heap[ib]? = some (.stringIter s pos)) (h : pos < s.size) :
    (Instr.next (.pointer (some ⟨ib, 0, none⟩)) true ty).run P W = .ok (.tuple #[.bool true, .int .i64 (pos : Int), .int .i32 ((Utf8.decode s pos).1 : Int)]) (putO W ib (.stringIter s (pos + (Utf8.decode s pos).2))) := by
  simp only [Instr.next, getObj, setObj, Sem.run_bind, Sem.run, hh, Result.andThen, h, if_true]
  simp [goInt, putO]
theorem run_next_no {P : Program} (W : World) (ib : Nat) (s : ByteArray) (pos : Nat) (ty : TypeId) (hh : W.heap[ib]? = some (.stringIter s pos)) (h : ¬ pos < s.size) :
    (Instr.next (.pointer (some ⟨ib, 0, none⟩)) true ty).run P W = .ok (.tuple #[.bool false]) W := by
  simp [Instr.next, getObj, Sem.run, hh, h]

theorem decode_here (l0 : By) (pos : Nat) : Utf8.decode (bs l0) pos = decodeL' (l0.drop pos) := by
  have h := Go.Lib.tail_decode (bs l0) pos 0
  rw [bs_size, bs_extract, List.take_length, Nat.add_zero] at h
  exact h.symm
theorem decode_bd (l0 : By) (pos : Nat) (h : pos < l0.length) : 1 ≤ (decodeL' (l0.drop pos)).2 ∧ pos + (decodeL' (l0.drop pos)).2 ≤ l0.length ∧ (decodeL' (l0.drop pos)).1 ≤ 1114111 := by
  have hne : l0.drop pos ≠ [] := by
    intro e
    have := congrArg List.length e
    rw [List.length_drop] at this
    simp at this
    omega
  have h1 := Go.Lib.decodeL_le (l0.drop pos) hne
  rw [List.length_drop] at h1
  have h2 := Go.Lib.decodeL_width (l0.drop pos)
  have h3 := Go.Lib.decodeL_rune (l0.drop pos)
  refine ⟨h2, ?_, h3⟩
  have : (decodeL' (l0.drop pos)).2 ≤ l0.length - pos := h1
  omega

theorem endS_line (t : LS) : (endS t).line = t.line ∧ (endS t).col = t.col ∧ (endS t).rem = t.rem ∧ (endS t).ws.length ≤ t.ws.length + 1 := by
  unfold endS
  split
  · refine ⟨rfl, rfl, rfl, ?_⟩
    simp
  · exact ⟨rfl, rfl, rfl, by omega⟩
theorem nextS_line (c : Nat) (x : By) (t : LS) : (nextS c x t).line = t.line ∧ (nextS c x t).col = t.col ∧ (nextS c x t).ws.length ≤ t.ws.length + 1 := by
  unfold nextS
  split
  · have h := endS_line { t with rem := t.rem || decide (c = 35) }
    exact ⟨h.1, h.2.1, h.2.2.2⟩
  · split
    · exact ⟨rfl, rfl, by simp⟩
    · exact ⟨rfl, rfl, by simp⟩

/-- A list of words that was made since w0, its room used up. -/
def ClipW (w0 w : World) (v : Value) (l : List W3) : Prop :=
  (v = .slice none 0 0 ∧ l = []) ∨ ∃ g cur, v = .slice (some ⟨g, 0, none⟩) l.length l.length ∧ w0.heap.size ≤ g ∧ w.heap[g]? = some (.cells cur 32 (0, 0)) ∧ cur.toList.take (l.length * 3) = flatW l ∧ l.length ≤ maxLen
theorem clip_of {w0 w : World} {v : Value} {l : List W3} (h : OwnW w v l) (hF : ∀ k, v.ownBlock = some k → w0.heap.size ≤ k) : ∃ a c, v = .slice a l.length c ∧ l.length ≤ c ∧ ClipW w0 w (.slice a l.length l.length) l := by
  obtain ⟨h1, ⟨rfl, h0⟩ | ⟨g, cap, cur, rfl, _, hg, hn, hc, hs, ht⟩⟩ := h
  · have : l = [] := List.eq_nil_of_length_eq_zero h0
    subst this
    exact ⟨none, 0, rfl, Nat.le_refl _, .inl ⟨rfl, rfl⟩⟩
  · exact ⟨_, cap, rfl, hn, .inr ⟨g, cur, rfl, hF g rfl, hg, ht, Nat.le_trans hn hc⟩⟩
theorem ClipW.keep {F : Nat → Prop} {w0 w w' : World} {v : Value} {l : List W3} (h : ClipW w0 w v l) (hK : Keep F w w') (hF : ∀ k, v.ownBlock = some k → ¬ F k) : ClipW w0 w' v l := by
  obtain h | ⟨g, cur, rfl, hg, hh, h3⟩ := h
  · exact .inl h
  · exact .inr ⟨g, cur, rfl, hg, (hK.block g (lt_of_heap hh) (hF g rfl)).trans hh, h3⟩

set_option maxHeartbeats 400000 in
theorem clipw_any {w : World} (a : Option Addr) (n c : Nat) (h : n ≤ c) :
    Calls Try.prog 25 #[.slice a n c] w fun e w' => e = .returned (.slice a n n) ∧ w = w' := by
  go_enter Try.func25, Try.ntmps25
  go_wp2
  go_ret
  exact ⟨rfl, rfl⟩

theorem lexL_step (f : Nat) (l : By) (hl : l ≠ []) (t : LS) (c d : Nat) (hc : (decodeL' l).1 = c) (hd : (decodeL' l).2 = d) : lexL (f + 1) l t =
    if c = 10 then lexL f (l.drop d) { endS { t with col := t.col + 1 } with line := t.line + 1, col := 0, rem := false }
    else if badL c l then .inl (t.line, t.col + 1)
    else lexL f (l.drop d) (nextS c (l.take d) { t with col := t.col + 1 }) := by
  rw [lexL, if_neg hl, hc, hd]
theorem lexL_nil (f : Nat) (t : LS) : lexL f [] t = .inr (endS t) := by
  cases f <;> simp [lexL]

theorem results_tmp4 {fn : Func} {t u v x : Tmp} (h : fn.results = #[.tmp t, .tmp u, .tmp v, .tmp x]) (tmps : Array Value) (P : Program) (w : World) :
    (results fn tmps).run P w = .ok (.tuple #[tmps.getD t undef, tmps.getD u undef, tmps.getD v undef, tmps.getD x undef]) w := by
  simp [results, h]

/-- What the rest comes to, from here. -/
structure Rest (R : Sum (Nat × Nat) LS) (f : Nat) (l : By) (t : LS) : Prop where
  eq : lexL f l t = R
theorem Rest.step {R : Sum (Nat × Nat) LS} {f : Nat} {l : By} {t : LS} (h : Rest R (f + 1) l t) (hl : l ≠ []) (c d : Nat) (hc : (decodeL' l).1 = c) (hd : (decodeL' l).2 = d) :
    (c = 10 ∧ Rest R f (l.drop d) { endS { t with col := t.col + 1 } with line := t.line + 1, col := 0, rem := false }) ∨
    (c ≠ 10 ∧ badL c l = true ∧ R = .inl (t.line, t.col + 1)) ∨
    (c ≠ 10 ∧ badL c l = false ∧ Rest R f (l.drop d) (nextS c (l.take d) { t with col := t.col + 1 })) := by
  have e := h.eq
  rw [lexL_step f l hl t c d hc hd] at e
  by_cases h1 : c = 10
  · rw [if_pos h1] at e
    exact .inl ⟨h1, ⟨e⟩⟩
  · rw [if_neg h1] at e
    by_cases h2 : badL c l = true
    · rw [if_pos h2] at e
      exact .inr (.inl ⟨h1, h2, e.symm⟩)
    · rw [if_neg h2] at e
      exact .inr (.inr ⟨h1, by simpa using h2, ⟨e⟩⟩)

theorem Rd.iter {w0 W : World} {b : Nat} {l0 : By} {i : Nat} {t : LS} (h : Rd w0 W b l0 i t) (ib : Nat) (o o' : Obj) (hi : W.heap[ib]? = some o) (hnc : ∀ C T f, o ≠ Obj.cells C T f) (hge : w0.heap.size ≤ ib) : Rd w0 (putO W ib o') b l0 i t := by
  obtain ⟨sv, fr, a, h1, h2, h3, h4⟩ := h.ex
  have hK := putO_keep W ib o'
  refine ⟨⟨sv, fr, a, h1.keep hK (fun e => ?_), h2.keep hK (fun k hk e => ?_), h3, h4⟩, h.kp.then hK (fun k hk => .inr (by rw [hk]; exact hge)), h.ge⟩
  · rw [← e] at hi
    rw [h1] at hi
    cases hi
    exact hnc _ _ _ rfl
  · obtain ⟨C, T, f, hC⟩ := own_cells h2 k hk
    rw [e, hi] at hC
    cases hC
    exact hnc _ _ _ rfl
theorem iterPos_of {W : World} {k p : Nat} {s : ByteArray} (h : W.heap[k]? = some (.stringIter s p)) : W.iterPos k = p := by
  simp [World.iterPos, h]
theorem oth_iter {W W' : World} {k p : Nat} {s : ByteArray} (ho : Oth W W') (h : W.heap[k]? = some (.stringIter s p)) : W'.heap[k]? = some (.stringIter s p) := ho _ _ h (fun C T f e => by cases e)

set_option maxRecDepth 10000 in
set_option maxHeartbeats 1000000 in
theorem words_any (l0 : By) (hl0 : l0.length ≤ 4611686018427387904) (w : World) :
    Calls Try.prog 12 #[.string (bs l0)] w fun e w' => ∃ v, e = .returned (.tuple #[v, .int .i64 ((lexR l0).2.1 : Int), .int .i64 ((lexR l0).2.2.1 : Int), .int .i64 ((lexR l0).2.2.2 : Int)]) ∧ ClipW w w' v (lexR l0).1 ∧ Keep (fun _ => False) w w' := by
  have bl := bs_size l0
  by_cases hbig : l0.length > 4096
  · have hR : lexR l0 = ([], 13, 0, 0) := by unfold lexR; rw [if_pos hbig]
    rw [hR]
    have hb' : (l0.length : Int) > 4096 := by omega
    clear hR hbig
    go_enter Try.func12, Try.ntmps12
    go_wp2
    (try simp only [Exit.inBlock, Exit.then])
    refine bodyPost_ret (results_tmp4 rfl _ _ _) rfl ?_
    exact ⟨_, rfl, .inl ⟨rfl, rfl⟩, Keep.refl _ _⟩
  · have hR : lexR l0 = finR (lexL l0.length l0 lex0) := by unfold lexR; rw [if_neg hbig]
    rw [hR]
    obtain ⟨R, hRR⟩ : ∃ R, lexL l0.length l0 lex0 = R := ⟨_, rfl⟩
    have HR0 : Rest R l0.length l0 lex0 := ⟨hRR⟩
    rw [hRR]
    have hb' : ¬ (l0.length : Int) > 4096 := by omega
    obtain ⟨wa, hwa⟩ : ∃ x, w.alloc (.cells #[.slice none 0 0, .int .i64 1, .int .i64 0, .int .i64 (-1), .int .i64 0, .bool false] 45) = x := ⟨_, rfl⟩
    have ka : Keep (fun _ => False) w wa := by rw [← hwa]; exact (Keep.refl _ _).alloc _
    have ro : RO wa w.heap.size (.slice none 0 0) 1 0 (-1) 0 false := by rw [← hwa]; exact heap_alloc_new w _
    have hsz : wa.heap.size = w.heap.size + 1 := by rw [← hwa]; exact World.size_alloc _ _
    have rd : Rd w (wa.iter (bs l0) 0) w.heap.size l0 0 lex0 := by
      have kk : Keep (fun _ => False) wa (wa.iter (bs l0) 0) := (Keep.refl _ _).alloc _
      exact ⟨⟨_, _, _, ro.keep kk (fun h => h), OwnW.nil _, rfl, fun k hk => by cases hk⟩, ka.trans kk, Nat.le_refl _⟩
    have it : (wa.iter (bs l0) 0).heap[wa.heap.size]? = some (.stringIter (bs l0) 0) := World.iter_heap wa (bs l0) 0
    rw [hsz] at it
    have rd := hid rd
    have it := hid it
    have h4096 : l0.length ≤ 4096 := by omega
    have HWA := hid hwa
    clear hR hRR hbig ro ka hwa hsz
    go_enter Try.func12, Try.ntmps12
    go_wp2_with fail
    rw [HWA.out]
    clear HWA
    go_loopw [7] (fun _ wr => ∃ pos f t, pos ≤ l0.length ∧ wr.heap[w.heap.size + 1]? = some (.stringIter (bs l0) pos) ∧ Rd w wr w.heap.size l0 pos t ∧ t.ws.length ≤ pos ∧ t.line ≤ pos + 1 ∧ t.col ≤ pos ∧ l0.length - pos ≤ f ∧ Rest R f (l0.drop pos) t)
      (fun _ wr => l0.length - wr.iterPos (w.heap.size + 1))
    case atStart => exact ⟨0, l0.length, lex0, Nat.zero_le _, it.out, rd.out, Nat.le_refl _, Nat.le_refl _, Nat.le_refl _, by omega, HR0⟩
    case round =>
      obtain ⟨pos, f, t, hpos, hit, hrd, hws, hline, hcol, hf, hrest⟩ := hrel
      have lb := hrd.lt
      have li := lt_of_heap hit
      have RD := hid hrd
      have IT := hid hit
      have RS := hid hrest
      clear it rd HR0 hrd hit hrest
      by_cases hlt : pos < l0.length
      · have hs : pos < (bs l0).size := by rw [bl]; exact hlt
        obtain ⟨hd1, hd2, hc1⟩ := decode_bd l0 pos hlt
        have hne : l0.drop pos ≠ [] := by
          intro e
          have := congrArg List.length e
          rw [List.length_drop] at this
          simp at this
          omega
        obtain ⟨f', rfl⟩ : ∃ f', f = f' + 1 := ⟨f - 1, by omega⟩
        have BE : (bs l0).extract pos l0.length = bs (l0.drop pos) := by rw [bs_extract, List.take_length]
        obtain ⟨c, hc⟩ : ∃ c, (decodeL' (l0.drop pos)).1 = c := ⟨_, rfl⟩
        obtain ⟨d, hd⟩ : ∃ d, (decodeL' (l0.drop pos)).2 = d := ⟨_, rfl⟩
        have ST := RS.out.step hne c d hc hd
        rw [List.drop_drop] at ST
        have NX : ∀ ty, (Instr.next (.pointer (some ⟨w.heap.size + 1, 0, none⟩)) true ty).run Try.prog wr = .ok (.tuple #[.bool true, .int .i64 (pos : Int), .int .i32 (c : Int)]) (putO wr (w.heap.size + 1) (.stringIter (bs l0) (pos + d))) := fun ty => by
          rw [run_next_at (P := Try.prog) wr (w.heap.size + 1) (bs l0) pos ty IT.out hs, decode_here, hc, hd]
        rw [hd] at hd1 hd2
        rw [hc] at hc1
        have RD1 := RD.out.iter (w.heap.size + 1) _ (.stringIter (bs l0) (pos + d)) IT.out (fun C T f e => by cases e) (by omega)
        have IT1 := putO_same wr (o := .stringIter (bs l0) (pos + d)) li
        obtain ⟨W1, hW1⟩ : ∃ x, putO wr (w.heap.size + 1) (.stringIter (bs l0) (pos + d)) = x := ⟨_, rfl⟩
        rw [hW1] at RD1 IT1
        simp only [hW1] at NX
        obtain ⟨ws, line, col, cur, rem⟩ := t
        dsimp only at hws hline hcol ST
        obtain ⟨sv, fr, a, hRO, _⟩ := id RD1.ex
        have c2 := hRO.c2
        have f2 := hRO.fro 2
        have RO2 := hRO.s2 (col + 1)
        have RD2 : Rd w (W1.setCell ⟨w.heap.size, 2, none⟩ (.int .i64 ((col : Int) + 1))) w.heap.size l0 pos ⟨ws, line, col + 1, cur, rem⟩ := RD1.turn 2 (.int .i64 ((col : Int) + 1)) ⟨ws, line, col + 1, cur, rem⟩ rfl rfl (fun sv fr a h => h.s2 (col + 1))
        have IT2 := oth_iter (RD1.oth 2 (.int .i64 ((col : Int) + 1))) IT1
        have IP := iterPos_of IT.out
        have hIP := hid IP
        dsimp only at RO2 c2
        have RD2 := hid RD2
        have IT2 := hid IT2
        have RO2 := hid RO2
        clear hc hd RD1 IT1 hW1 hRO IP RS
        rcases ST with ⟨h10, hrest⟩ | ⟨h10, hbad, hRR⟩ | ⟨h10, hbad, hrest⟩
        · have e10 : ((c : Int) == 10) = true := by simp [h10]
          have RS := hid hrest
          clear hrest h10
          go_wp2_with fail
          refine (end_any RD2.out hpos (by omega) (by dsimp only; omega) (by dsimp only; omega)).mono ?_
          rintro e W3 ⟨⟨v, rfl⟩, h3, o3⟩
          have IT3 := oth_iter o3 IT2.out
          obtain ⟨sv3, fr3, a3, hRO3, _⟩ := id h3.ex
          obtain ⟨el1, el2, el3, el4⟩ := endS_line ⟨ws, line, col + 1, cur, rem⟩
          have ecur := endS_none ⟨ws, line, col + 1, cur, rem⟩
          obtain ⟨t3, ht3⟩ : ∃ t3, endS ⟨ws, line, col + 1, cur, rem⟩ = t3 := ⟨_, rfl⟩
          have RS' := RS.out
          rw [ht3] at h3 hRO3 el1 el2 el3 el4 ecur RS'
          dsimp only at el1 el2 el3 el4
          rw [el1] at hRO3
          have RS' := hid RS'
          have c1 := hRO3.c1
          have f1 := hRO3.fro 1
          have hRO4 : RO (W3.setCell ⟨w.heap.size, 1, none⟩ (.int .i64 ((line : Int) + 1))) w.heap.size sv3 (line + 1) t3.col fr3 a3 t3.rem := hRO3.s1 (line + 1)
          have hRO5 : RO ((W3.setCell ⟨w.heap.size, 1, none⟩ (.int .i64 ((line : Int) + 1))).setCell ⟨w.heap.size, 2, none⟩ (.int .i64 0)) w.heap.size sv3 (line + 1) 0 fr3 a3 t3.rem := hRO4.s2 0
          have f2' := hRO4.fro 2
          have c2' := hRO4.c2
          have f5' := hRO5.fro 5
          have c5' := hRO5.c5
          have RD4 : Rd w (((W3.setCell ⟨w.heap.size, 1, none⟩ (.int .i64 ((line : Int) + 1))).setCell ⟨w.heap.size, 2, none⟩ (.int .i64 0)).setCell ⟨w.heap.size, 5, none⟩ (.bool false)) w.heap.size l0 pos { t3 with line := line + 1, col := 0, rem := false } :=
            ((h3.turn 1 (.int .i64 ((line : Int) + 1)) { t3 with line := line + 1 } rfl rfl (fun sv fr a h => h.s1 (line + 1))).turn 2 (.int .i64 0) { t3 with line := line + 1, col := 0 } rfl rfl (fun sv fr a h => h.s2 0)).turn 5 (.bool false) { t3 with line := line + 1, col := 0, rem := false } rfl rfl (fun sv fr a h => h.s5 false)
          have q1 := h3.turn 1 (.int .i64 ((line : Int) + 1)) { t3 with line := line + 1 } rfl rfl (fun sv fr a h => h.s1 (line + 1))
          have q2 := q1.turn 2 (.int .i64 0) { t3 with line := line + 1, col := 0 } rfl rfl (fun sv fr a h => h.s2 0)
          have IT4 := hid (oth_iter (q2.oth 5 (.bool false)) (oth_iter (q1.oth 2 (.int .i64 0)) (oth_iter (h3.oth 1 (.int .i64 ((line : Int) + 1))) IT3)))
          have RD5 := hid (RD4.stay ecur (pos + d))
          have IP5 := hid (iterPos_of IT4.out)
          clear hRO4 hRO5
          clear IT3 hRO3 ht3 h3 o3 RS RD2 IT2 c2 f2 RO2 NX RD4 q1 q2 BE
          go_wp2_with fail
          go_roundw
          case rel => exact ⟨pos + d, f', _, hd2, IT4.out, RD5.out, by dsimp only; omega, by dsimp only; omega, by dsimp only; omega, by omega, RS'.out⟩
          case measure => rw [hIP.out, IP5.out]; omega
        · have e10 : ((c : Int) == 10) = false := by simp; omega
          have FR : Hid (finR R = ([], 2, line, col + 1)) := hid (by rw [hRR]; rfl)
          have c1 := RO2.out.c1
          have c2' := RO2.out.c2
          have KK := hid RD2.out.kp
          clear hRR h10 RD2 RO2 IT2
          go_wp2_with fail
          refine (bad_any c (l0.drop pos) hc1 _).mono ?_
          rintro _ _ ⟨rfl, rfl⟩
          rw [hbad]
          clear hbad NX
          go_wp2_with fail
          refine wp_region_text [0,0,0,0,0,0,0,0] (fun W => W.cell? ⟨w.heap.size, 1, none⟩ = some (.int .i64 (line : Int)) ∧ W.cell? ⟨w.heap.size, 2, none⟩ = some (.int .i64 ((col + 1 : Nat) : Int))) (by kernel_rfl) (by kernel_rfl) ⟨c1, c2'⟩ ?_
          repeat (first
            | (refine' wpT_calm (v := _) (by rfl) (fun W hW => ?_) ?_; rotate_left
               · ((try dsimp only at hW); go_simp; first | done | rfl)
               simp only [Act.put, List.setIfInBounds_toArray, List.set_cons_zero, List.set_cons_succ])
            | (refine' wpT_reads (v := _) (by rfl) ?_ ?_; rotate_left
               · (go_simp; first | done | rfl)
               simp only [Act.put, List.setIfInBounds_toArray, List.set_cons_zero, List.set_cons_succ])
            | (refine wpT_skip (by rfl) rfl ?_; simp only [Act.put, List.setIfInBounds_toArray, List.set_cons_zero, List.set_cons_succ])
            | (refine wpT_does (by rfl) (fun K hK => ?_); go_simp; refine hK _ _ ?_ ?_
               · (trivial)
               clear hK K; try simp only [Act.put, List.setIfInBounds_toArray, List.set_cons_zero, List.set_cons_succ])
            | (refine wpT_last (by rfl) (fun K hK => ?_); go_simp; refine hK _ _ ?_; clear hK K)
            | (refine wpT_nil ?_))
          go_wp2_with fail
          (try simp only [Exit.inBlock, Exit.then])
          refine bodyPost_ret (results_tmp4 rfl _ _ _) rfl ?_
          rw [FR.out]
          exact ⟨_, rfl, .inl ⟨rfl, rfl⟩, KK.out.drew⟩
        · have e10 : ((c : Int) == 10) = false := by simp; omega
          have RS := hid hrest
          have HX := hid hbad
          clear hrest h10 RO2 hbad
          go_wp2_with fail
          refine (bad_any c (l0.drop pos) hc1 _).mono ?_
          rintro _ _ ⟨rfl, rfl⟩
          rw [HX.out]
          clear HX NX
          go_wp2_with fail
          refine (next_any RD2.out hd2 (by omega) (by dsimp only; omega) (by dsimp only; omega) hc1).mono ?_
          rintro e W3 ⟨⟨v, rfl⟩, h3, o3⟩
          have IT3 := hid (oth_iter o3 IT2.out)
          obtain ⟨el1, el2, el3⟩ := nextS_line c ((l0.drop pos).take d) ⟨ws, line, col + 1, cur, rem⟩
          dsimp only at el1 el2 el3
          have RS' := RS.out
          obtain ⟨t3, ht3⟩ : ∃ t3, nextS c ((l0.drop pos).take d) ⟨ws, line, col + 1, cur, rem⟩ = t3 := ⟨_, rfl⟩
          rw [ht3] at h3 el1 el2 el3 RS'
          have H3 := hid h3
          have RS' := hid RS'
          have IP5 := hid (iterPos_of IT3.out)
          have L1 := hid el1
          have L2 := hid el2
          clear h3 o3 ht3 RS RD2 IT2 c2 f2 BE el1 el2
          go_wp2_with fail
          go_roundw
          case rel => exact ⟨pos + d, f', t3, hd2, IT3.out, H3.out, by omega, by rw [L1.out]; omega, by rw [L2.out]; omega, by omega, RS'.out⟩
          case measure => rw [hIP.out, IP5.out]; omega
      · have hs : ¬ pos < (bs l0).size := by rw [bl]; exact hlt
        have NX : ∀ ty, (Instr.next (.pointer (some ⟨w.heap.size + 1, 0, none⟩)) true ty).run Try.prog wr = .ok (.tuple #[.bool false]) wr := fun ty => run_next_no (P := Try.prog) wr (w.heap.size + 1) (bs l0) pos ty IT.out hs
        obtain rfl : pos = l0.length := by omega
        have e := RS.out.eq
        rw [List.drop_length, lexL_nil] at e
        have FR : Hid (finR R = ((endS t).ws, 0, 0, 0)) := hid (by rw [← e]; rfl)
        obtain ⟨el1, el2, el3, el4⟩ := endS_line t
        clear e RS hlt
        go_wp2_with fail
        refine (end_any RD.out (Nat.le_refl _) (by omega) (by omega) (by omega)).mono ?_
        rintro e W3 ⟨⟨v, rfl⟩, h3, o3⟩
        obtain ⟨sv, fr, a, hRO, hO, _, hF⟩ := id h3.ex
        obtain ⟨a1, c1, hsv, hle, hcl⟩ := clip_of hO (fun k hk => (hF k hk).1)
        subst hsv
        have c0 := hRO.c0
        have KK := hid h3.kp
        have CL := hid hcl
        obtain ⟨L, hL⟩ : ∃ L, (endS t).ws = L := ⟨_, rfl⟩
        rw [hL] at c0 CL FR hle
        clear NX hRO hO hF h3 o3 hcl el1 el2 el3 el4 hL
        go_wp2_with fail
        refine (clipw_any a1 L.length c1 hle).mono ?_
        rintro _ _ ⟨rfl, rfl⟩
        go_wp2_with fail
        (try simp only [Exit.inBlock, Exit.then])
        refine bodyPost_ret (results_tmp4 rfl _ _ _) rfl ?_
        rw [FR.out]
        exact ⟨_, rfl, CL.out, KK.out⟩
end Go.Proofs.Ytknlhbbkjgkjpaa
