/- Lists of words; HasPrefix and bad; the reader's end and next. -/
import Derived.Test.YtknlhbbkjgkjpaaLexA
namespace Go.Proofs.Ytknlhbbkjgkjpaa
open Go Go.RowKit

def flatW (l : List W3) : List Value := l.flatMap fun x => [.string (bs x.1), .int .i64 (x.2.1 : Int), .int .i64 (x.2.2 : Int)]
theorem flatW_cons (x : W3) (l : List W3) : flatW (x :: l) = [.string (bs x.1), .int .i64 (x.2.1 : Int), .int .i64 (x.2.2 : Int)] ++ flatW l := rfl
theorem flatW_length : ∀ l : List W3, (flatW l).length = l.length * 3
  | [] => rfl
  | x :: l => by rw [flatW_cons, List.length_append, flatW_length l, List.length_cons]; simp; omega
theorem flatW_append (a b : List W3) : flatW (a ++ b) = flatW a ++ flatW b := by simp [flatW]
theorem flatW_one (l : List W3) : ∀ v ∈ flatW l, v.oneCell' = true := by
  intro v hv
  simp only [flatW, List.mem_flatMap] at hv
  obtain ⟨x, _, hx⟩ := hv
  simp at hx
  rcases hx with rfl | rfl | rfl <;> rfl
def gw (l : List W3) (i : Nat) : W3 := l.getD i ([], 0, 0)
theorem flatW_get : ∀ (l : List W3) (i : Nat), i < l.length → (flatW l)[i * 3]? = some (.string (bs (gw l i).1)) ∧ (flatW l)[i * 3 + 1]? = some (.int .i64 ((gw l i).2.1 : Int)) ∧ (flatW l)[i * 3 + 2]? = some (.int .i64 ((gw l i).2.2 : Int))
  | [], i, h => absurd h (Nat.not_lt_zero _)
  | x :: l, 0, _ => ⟨rfl, rfl, rfl⟩
  | x :: l, i + 1, h => by
    have ih := flatW_get l i (by simpa using h)
    have e : ∀ j, (flatW (x :: l))[(i + 1) * 3 + j]? = (flatW l)[i * 3 + j]? := fun j => by
      rw [flatW_cons, List.getElem?_append_right (by simp; omega)]
      congr 1
      simp
      omega
    exact ⟨(e 0).trans ih.1, (e 1).trans ih.2.1, (e 2).trans ih.2.2⟩

/-- v is the call's own list of words. -/
def OwnW (w : World) (v : Value) (l : List W3) : Prop := w.ownsRow 0 32 3 v l.length (flatW l)
theorem OwnW.form {w : World} {v : Value} {l : List W3} (h : OwnW w v l) : ∃ a c, v = .slice a l.length c := owns_form h
theorem OwnW.nil (w : World) : OwnW w (.slice none 0 0) [] := World.ownsRow_nil _ _ _ _
theorem OwnW.keep {F : Nat → Prop} {w w' : World} {v : Value} {l : List W3} (h : OwnW w v l) (hK : Keep F w w') (hF : ∀ k, v.ownBlock = some k → ¬ F k) : OwnW w' v l := owns_keep h hK hF
theorem Try.infoW : (Try.prog.info? 32).map (fun i => (i.zero, i.size, i.bytes)) = some (some (.agg #[.string ByteArray.empty, .int .i64 0, .int .i64 0]), 3, 32) := by kernel_rfl
theorem one_srcW (w : World) (x : W3) : Src (w.alloc (.cells #[.string (bs x.1), .int .i64 (x.2.1 : Int), .int .i64 (x.2.2 : Int)] 32)) (.slice (some ⟨w.heap.size, 0, none⟩) 1 1) 1 3 (flatW [x]) := by
  refine .inr ⟨_, _, rfl, rfl, fun j u hu => ?_, flatW_one _⟩
  have hadd : (⟨w.heap.size, 0, none⟩ : Addr).add j = ⟨w.heap.size, j, none⟩ := by unfold Addr.add; split <;> simp_all
  rw [hadd, World.cell?_alloc_new]
  simpa [flatW] using hu
theorem wp_append_words (w : World) {o : Oper} {a : Act} {K : Act → World → Prop} {Q : Exit → Act → World → Prop} (s y : Operand)
    (ho : o.op = .call { callee := .builtin .append, args := #[s, y], argTypes := #[22, 22] })
    (v : Value) (l : List W3) (hs : a.eval s = v) (hown : OwnW w v l) (sv : Value) (m : Nat) (news : List W3) (hx : a.eval y = sv) (hsrc : Src w sv m 3 (flatW news)) (hn : l.length + m ≤ 1000000)
    (h : ∀ v' w', OwnW w' v' (l ++ news) → (∀ k, v'.ownBlock = some k → v.ownBlock = some k ∨ w.heap.size ≤ k) → Keep (fun k => v.ownBlock = some k) w w' → K (a.put o.dst v') w') : o.wp Try.prog a w K Q := by
  obtain ⟨i0, hi, hz0, hz1, hz2⟩ := info_parts Try.infoW
  have hm : news.length = m := by
    rcases hsrc with ⟨_, h1, h2⟩ | ⟨_, _, _, h2, _⟩
    · have h3 : news.length * 3 = 0 := by rw [← flatW_length, h2]; rfl
      omega
    · rw [flatW_length] at h2; omega
  refine wp_append_src w s y 22 ho 0 32 i0 (.agg #[.string ByteArray.empty, .int .i64 0, .int .i64 0]) 3 32 Try.underlying22 hi hz0 hz1 hz2 rfl (by decide) v l.length (flatW l) hs hown sv m _ hx hsrc (by unfold maxLen; omega) (by omega) (Nat.zero_le _) ?_
  intro v1 w1 o1 g1 f1
  refine h v1 w1 ?_ f1 (Keep.of_grown g1)
  unfold OwnW
  rw [List.length_append, flatW_append, hm]
  exact o1

theorem prefix_run (l p : By) (h : p.length ≤ l.length) : ((bs l).extract 0 p.length).toList = l.take p.length := by
  rw [bs_extract, bs_list, List.drop_zero]

set_option maxHeartbeats 400000 in
theorem hasPrefix_lite (l : By) (w : World) :
    Calls Try.prog 38 #[.string (bs l), .string ⟨#[239, 191, 189]⟩] w fun e w' => e = .returned (.bool (decide (l.take 3 = pre3))) ∧ w = w' := by
  have hs := bs_size l
  have e3 : (⟨#[239, 191, 189]⟩ : ByteArray).size = 3 := rfl
  have el : (⟨#[239, 191, 189]⟩ : ByteArray).toList = pre3 := bs_list pre3
  by_cases h : 3 ≤ l.length
  · have hx : (((bs l).extract 0 3).toList == pre3) = decide (l.take 3 = pre3) := by
      have := prefix_run l pre3 h
      rw [show pre3.length = 3 from rfl] at this
      rw [this, Bool.eq_iff_iff]
      simp
    obtain ⟨B, hB⟩ : ∃ B, decide (l.take 3 = pre3) = B := ⟨_, rfl⟩
    rw [hB] at hx ⊢
    have h3 : (l.length : Int) ≥ 3 := by omega
    have h4 : (3 : Int) ≤ (l.length : Int) := by omega
    clear hB
    go_enter Try.func38, Try.ntmps38
    go_wp2
    go_ret
    exact ⟨by first | rfl | (congr 2), rfl⟩
  · have hB : decide (l.take 3 = pre3) = false := decide_eq_false (fun e => by
      have := congrArg List.length e
      rw [List.length_take] at this
      simp [pre3] at this
      omega)
    rw [hB]
    have h3 : ¬ (l.length : Int) ≥ 3 := by omega
    have h4 : ¬ (3 : Int) ≤ (l.length : Int) := by omega
    clear hB
    go_enter Try.func38, Try.ntmps38
    go_wp2
    go_ret
    exact ⟨rfl, rfl⟩
theorem hasPrefix_any (l : By) (w : World) :
    Calls Try.prog 35 #[.string (bs l), .string ⟨#[239, 191, 189]⟩] w fun e w' => e = .returned (.bool (decide (l.take 3 = pre3))) ∧ w = w' := by
  obtain ⟨B, hB⟩ : ∃ B, decide (l.take 3 = pre3) = B := ⟨_, rfl⟩
  have HB := hid hB
  rw [hB]
  clear hB
  go_enter Try.func35, Try.ntmps35
  go_wp2_with fail
  refine (hasPrefix_lite l w).mono ?_
  rintro _ _ ⟨rfl, rfl⟩
  rw [HB.out]
  go_wp2
  go_ret
  exact ⟨rfl, rfl⟩

set_option maxHeartbeats 400000 in
theorem bad_any (c : Nat) (l : By) (hc : c ≤ 1114111) (w : World) :
    Calls Try.prog 23 #[.int .i32 (c : Int), .string (bs l)] w fun e w' => e = .returned (.bool (badL c l)) ∧ w = w' := by
  unfold badL
  by_cases h1 : c < 32
  · have h1' : (c : Int) < 32 := by omega
    have e : (decide (c < 32) || decide (c = 127) || decide (c = 65533) && !decide (l.take 3 = pre3)) = true := by simp [h1]
    rw [e]
    clear e h1
    go_enter Try.func23, Try.ntmps23
    go_wp2
    go_ret
    exact ⟨rfl, rfl⟩
  · have h1' : ¬ (c : Int) < 32 := by omega
    by_cases h2 : c = 127
    · subst h2
      have e : (decide (127 < 32) || decide (127 = 127) || decide (127 = 65533) && !decide (l.take 3 = pre3)) = true := by simp
      rw [e]
      clear e h1 h1'
      go_enter Try.func23, Try.ntmps23
      go_wp2
      go_ret
      exact ⟨rfl, rfl⟩
    · have h2' : ((c : Int) == 127) = false := by simp; omega
      by_cases h3 : c = 65533
      · subst h3
        have e : (decide (65533 < 32) || decide (65533 = 127) || decide (65533 = 65533) && !decide (l.take 3 = pre3)) = !decide (l.take 3 = pre3) := by simp
        rw [e]
        have HP := hid (hasPrefix_any l w)
        obtain ⟨B, hB⟩ : ∃ B, decide (l.take 3 = pre3) = B := ⟨_, rfl⟩
        have HB := hid hB
        rw [hB]
        clear e h1 h1' h2 h2' hB
        go_enter Try.func23, Try.ntmps23
        go_wp2_with fail
        refine HP.out.mono ?_
        rintro _ _ ⟨rfl, rfl⟩
        rw [HB.out]
        go_wp2
        go_ret
        exact ⟨rfl, rfl⟩
      · have h3' : ((c : Int) == 65533) = false := by simp; omega
        have e : (decide (c < 32) || decide (c = 127) || decide (c = 65533) && !decide (l.take 3 = pre3)) = false := by simp [h1, h2, h3]
        rw [e]
        clear e h1 h2 h3
        go_enter Try.func23, Try.ntmps23
        go_wp2
        go_ret
        exact ⟨rfl, rfl⟩
end Go.Proofs.Ytknlhbbkjgkjpaa
