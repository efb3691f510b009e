/- The document's words of a line. -/
import Derived.Test.YtknlhbbkjgkjpaaLexP
import Derived.Test.YtknlhbbkjgkjpaaLexI
namespace Go.Proofs.Ytknlhbbkjgkjpaa
open Go Go.RowKit

/-- Where one is in a line. -/
structure One (T : LS) (x : By) (line i col : Nat) (text : By) (at' : Nat) (t : LS) : Prop where
  rest : lexL (x.drop i).length (x.drop i) t = .inr T
  rem : t.rem = false
  line : t.line = line
  col : t.col = col
  cur : (text = [] ∧ t.cur = none) ∨ (text ≠ [] ∧ t.cur = some (text, at'))
theorem endS_of {t : LS} {line : Nat} {text : By} {a : Nat} (h : (text = [] ∧ t.cur = none) ∨ (text ≠ [] ∧ t.cur = some (text, a))) (hl : t.line = line) : (endS t).ws = if text = [] then t.ws else t.ws ++ [(text, line, a)] := by
  unfold endS
  rcases h with ⟨h1, h2⟩ | ⟨h1, h2⟩
  · rw [h2, if_pos h1]
  · rw [h2, if_neg h1, ← hl]
theorem One.end {T : LS} {x : By} {line col : Nat} {text : By} {a : Nat} {t : LS} (h : One T x line x.length col text a t) : T.ws = if text = [] then t.ws else t.ws ++ [(text, line, a)] := by
  have e := h.rest
  rw [List.drop_length, lexL_nil'] at e
  simp only [Sum.inr.injEq] at e
  rw [← e, endS_of h.cur h.line]
theorem One.step {T : LS} {x : By} {line i col : Nat} {text : By} {a : Nat} {t : LS} (h : One T x line i col text a t) (hi : i < x.length) (h10 : (10 : UInt8) ∉ x) (h35 : (35 : UInt8) ∉ x) :
    ∃ d, wideL (x.drop i) = d ∧ 1 ≤ d ∧ i + d ≤ x.length ∧
      ((gu (x.drop i) 0 = 32 ∧ d = 1 ∧ ∃ t', t'.ws = (if text = [] then t.ws else t.ws ++ [(text, line, a)]) ∧ ∀ a', One T x line (i + d) (col + 1) [] a' t') ∨
       (gu (x.drop i) 0 ≠ 32 ∧ ∃ t', t'.ws = t.ws ∧ One T x line (i + d) (col + 1) (text ++ (x.drop i).take d) (if text = [] then col + 1 else a) t')) := by
  have hne : x.drop i ≠ [] := by
    intro e
    have := congrArg List.length e
    rw [List.length_drop] at this
    simp at this
    omega
  obtain ⟨d, e1, e2, e3, e4⟩ := one_step (x.drop i) hne (fun hm => h10 (List.mem_of_mem_drop hm)) (fun hm => h35 (List.mem_of_mem_drop hm)) t T h.rem h.rest
  rw [List.length_drop] at e3
  refine ⟨d, e1, e2, by omega, ?_⟩
  rw [List.drop_drop] at e4
  rcases e4 with ⟨g, d1, e5⟩ | ⟨g, e5⟩
  · refine .inl ⟨g, d1, _, ?_, fun a' => ⟨e5, ?_, ?_, ?_, .inl ⟨rfl, ?_⟩⟩⟩
    · exact endS_of (t := { t with col := t.col + 1 }) h.cur h.line
    · rw [(endS_line _).2.2.1]; exact h.rem
    · rw [(endS_line _).1]; exact h.line
    · rw [(endS_line _).2.1]; show t.col + 1 = _; rw [h.col]
    · exact endS_none _
  · refine .inr ⟨g, _, ?_, ⟨e5, h.rem, h.line, ?_, .inr ⟨?_, ?_⟩⟩⟩
    · rfl
    · show t.col + 1 = _; rw [h.col]
    · intro e
      have := congrArg List.length e
      rw [List.length_append, List.length_take, List.length_drop] at this
      simp at this
      omega
    · rcases h.cur with ⟨h1, h2⟩ | ⟨h1, h2⟩
      · show (match t.cur with | some (y, a) => some (y ++ (x.drop i).take d, a) | none => some ((x.drop i).take d, t.col + 1)) = _
        rw [h2, if_pos h1, h1, h.col, List.nil_append]
      · show (match t.cur with | some (y, a) => some (y ++ (x.drop i).take d, a) | none => some ((x.drop i).take d, t.col + 1)) = _
        rw [h2, if_neg h1]
theorem made_rowW (w : World) : OwnW (w.alloc (.cells #[] 32)) (.slice (some ⟨w.heap.size, 0, none⟩) 0 0) [] := World.ownsRow_made w #[] 0 (Nat.zero_le _) (by simp [maxLen]) (by simp)
theorem take_not35 (x : By) (i : Nat) (hi : i < x.length) (h : (35 : UInt8) ∉ x.take i) (hx : (x.getD i 0).toNat ≠ 35) : (35 : UInt8) ∉ x.take (i + 1) := by
  rw [List.take_succ_eq_append_getElem hi, List.mem_append, not_or]
  refine ⟨h, ?_⟩
  rw [List.mem_singleton]
  intro e
  apply hx
  rw [List.getD_eq_getElem?_getD, List.getElem?_eq_getElem hi]
  show (x[i]).toNat = 35
  rw [← e]
  rfl

set_option maxRecDepth 10000 in
set_option maxHeartbeats 1000000 in
theorem one_any (l : By) (hl : l.length ≤ 4096) (h10 : (10 : UInt8) ∉ l) (line : Nat) (_hline : line ≤ 5000) (T : LS) (hT : lexL l.length l (tL [] line) = .inr T) (w : World) :
    Calls Try.prog 27 #[.string (bs l), .int .i64 (line : Int)] w fun e w' => ∃ v, e = .returned v ∧ OwnW w' v T.ws ∧ (∀ k, v.ownBlock = some k → w.heap.size ≤ k) ∧ Keep (fun _ => False) w w' := by
  have H10 := hid h10
  have HT := hid hT
  have bl := bs_size l
  clear hT h10
  go_enter Try.func27, Try.ntmps27
  go_wp2_with fail
  go_loopw [0, 6] (fun a b wr => ∃ (x : By) (i : Nat), Cut l x ∧ (35 : UInt8) ∉ x.take i ∧ i ≤ x.length + 1 ∧ a = .string (bs x) ∧ b = .int .i64 i ∧ (w.alloc (.cells #[] 32)) = wr) (fun _ b _ => l.length + 1 - (intOf b).toNat)
  case atStart => exact ⟨l, 0, .inl rfl, by simp, by omega, rfl, rfl, by first | trivial | rfl⟩
  case round =>
    obtain ⟨x, i, hx, h35, hi, rfl, rfl, rfl⟩ := hrel
    have bx := bs_size x
    have HX := hid hx
    have H35 := hid h35
    by_cases hlt : i < x.length
    · have hli : (i : Int) < (x.length : Int) := by omega
      have SI : ∀ h, ((bs x)[i]'h).toNat = (x.getD i 0).toNat := fun h => bs_get x i h
      have xl := hx.le
      by_cases e35 : (x.getD i 0).toNat = 35
      · rw [e35] at SI
        have hx2 := hid (hx.take i hlt e35)
        have BE : (bs x).extract 0 i = bs (x.take i) := by rw [bs_extract, List.drop_zero]
        have hli2 : (i : Int) ≤ (x.length : Int) := by omega
        clear hx h35 e35
        go_wp2_with fail
        go_roundw
        case rel => exact ⟨x.take i, i + 1, hx2.out, by rw [List.take_take, Nat.min_eq_right (by omega)]; exact H35.out, by rw [List.length_take]; omega, by rfl, by go_num, by first | trivial | rfl⟩
        case measure => simp [intOf]; omega
      · have h35' := hid (take_not35 x i hlt h35 e35)
        obtain ⟨y, hy⟩ : ∃ y, (x.getD i 0).toNat = y := ⟨_, rfl⟩
        rw [hy] at e35
        simp only [hy] at SI
        have f35 : ((y : Int) == 35) = false := by simp; omega
        clear hx h35 e35 hy
        go_wp2_with fail
        go_roundw
        case rel => exact ⟨x, i + 1, HX.out, h35'.out, by omega, rfl, by go_num, by first | trivial | rfl⟩
        case measure => simp [intOf]; omega
    · have hli : ¬ (i : Int) < (x.length : Int) := by omega
      have h35' : (35 : UInt8) ∉ x := by rwa [List.take_of_length_le (by omega)] at h35
      have hx10 : (10 : UInt8) ∉ x := fun hm => H10.out (hx.sub 10 hm)
      have xl := hx.le
      obtain ⟨T', hT', hTw⟩ := hx.lex H10.out _ T HT.out
      have HTW := hid hTw
      have N10 := hid hx10
      have N35 := hid h35'
      have S0 : One T' x line 0 0 [] 0 (tL [] line) := ⟨hT', rfl, rfl, rfl, .inl ⟨rfl, rfl⟩⟩
      have HS0 := hid S0
      clear S0 hT' hTw hx10 h35' h35 hx HX H35 HT
      go_wp2_with fail
      go_loopw [5, 7, 8, 9, 10] (fun ov cv tv av iv wr => ∃ (t : LS) (i col at' : Nat) (text : By) (a : Option Addr) (c n : Nat), One T' x line i col text at' t ∧ t.ws.length = n ∧ OwnW wr (.slice a n c) t.ws ∧ (∀ k, (Value.slice a n c).ownBlock = some k → w.heap.size ≤ k) ∧ Keep (fun _ => False) w wr ∧ n ≤ i ∧ col ≤ i ∧ at' ≤ i + 1 ∧ i ≤ x.length ∧ text.length ≤ i ∧ ov = .slice a n c ∧ cv = .int .i64 col ∧ tv = .string (bs text) ∧ av = .int .i64 at' ∧ iv = .int .i64 i) (fun _ _ _ _ iv _ => x.length - (intOf iv).toNat)
      case atStart =>
        exact ⟨tL [] line, 0, 0, 0, [], _, 0, 0, HS0.out, rfl, made_rowW w, fun k hk => by cases hk; exact Nat.le_refl _, (Keep.refl _ _).alloc _, by omega, by omega, by omega, by omega, by simp, rfl, rfl, rfl, rfl, rfl⟩
      case round =>
        obtain ⟨t, i, col, at', text, a, c, n, hS, hn, hO, hF, hK, b1, b2, b3, b4, b5, rfl, rfl, rfl, rfl, rfl⟩ := hrel
        have HO := hid hO
        have HF := hid hF
        have KK := hid hK
        have HN := hid hn
        have bt := bs_size text
        by_cases hlt : i < x.length
        · have hli : (i : Int) < (x.length : Int) := by omega
          have hli2 : (i : Int) ≤ (x.length : Int) := by omega
          obtain ⟨d, hd, d1, d2, hst⟩ := hS.step hlt N10.out N35.out
          have SI : ∀ h, ((bs x)[i]'h).toNat = (x.getD i 0).toNat := fun h => bs_get x i h
          have BE : (bs x).extract i x.length = bs (x.drop i) := by rw [bs_extract, List.take_length]
          have WD := hid (wide_any (x.drop i) (by rw [List.length_drop]; omega) wr)
          rw [hd] at WD
          have hg := gu_drop x i
          obtain ⟨y, hy⟩ : ∃ y, gu (x.drop i) 0 = y := ⟨_, rfl⟩
          rw [← hg] at SI
          rw [hy] at hst
          simp only [hy] at SI
          clear hg hy hd hS hO hF hK hn
          rcases hst with ⟨rfl, rfl, t', hw, hS'⟩ | ⟨e32, t', hw, hS'⟩
          · have HS := hid (hS' at')
            clear hS'
            by_cases htx : text = []
            · rw [if_pos htx] at hw
              have HW := hid hw
              have hE : (bs text).toList.isEmpty = true := by rw [bs_list, htx]; rfl
              clear hw htx
              go_wp2_with fail
              refine WD.out.mono ?_
              rintro _ _ ⟨rfl, rfl⟩
              clear WD
              go_wp2_with fail
              go_roundw
              case rel => exact ⟨t', i + 1, col + 1, at', [], a, c, n, HS.out, by rw [HW.out]; exact HN.out, by rw [HW.out]; exact HO.out, HF.out, KK.out, by omega, by omega, by omega, by omega, by simp, rfl, by go_num, by rfl, rfl, by go_num⟩
              case measure => simp [intOf]; omega
            · rw [if_neg htx] at hw
              have HW := hid hw
              have hE : (bs text).toList.isEmpty = false := by rw [bs_list]; simpa using htx
              clear hw htx
              go_wp2_with fail
              refine WD.out.mono ?_
              rintro _ _ ⟨rfl, rfl⟩
              clear WD
              have K0 : Keep (fun _ => False) wr (wr.alloc (.cells #[.string (bs text), .int .i64 (line : Int), .int .i64 (at' : Int)] 32)) := (Keep.refl _ _).alloc _
              have hown := HO.out.keep K0 (fun _ _ h => h)
              have hsrc := one_srcW wr (text, line, at')
              go_wp2_with (at_builtin; refine wpList_plain rfl (fun K hK => wp_append_words _ (.tmp 42) (.tmp 47) rfl (.slice a n c) t.ws rfl hown _ 1 [(text, line, at')] rfl hsrc (by rw [HN.out]; omega) ?_))
              intro v1 w1 o1 f1 k1
              obtain ⟨a1, n1, hv1⟩ := o1.form
              rw [List.length_append, HN.out] at hv1
              subst hv1
              refine hK _ _ ?_
              clear hK K
              have hsz : (wr.alloc (.cells #[.string (bs text), .int .i64 (line : Int), .int .i64 (at' : Int)] 32)).heap.size = wr.heap.size + 1 := World.size_alloc _ _
              have K2 := hid ((KK.out.trans K0).then k1 (fun k hk => .inr (HF.out k hk)))
              have F2 : Hid (∀ k, (Value.slice a1 (n + 1) n1).ownBlock = some k → w.heap.size ≤ k) := hid (fun k hk => (f1 k hk).elim (HF.out k) (fun h => by have := KK.out.size; omega))
              have O2 := hid o1
              clear o1 f1 k1 hsz K0 hown hsrc
              go_wp2_with fail
              go_roundw
              case rel => exact ⟨t', i + 1, col + 1, at', [], a1, n1, n + 1, HS.out, by rw [HW.out, List.length_append, HN.out]; rfl, by rw [HW.out]; exact O2.out, F2.out, K2.out, by omega, by omega, by omega, by omega, by simp, rfl, by go_num, by rfl, rfl, by go_num⟩
              case measure => simp [intOf]; omega
          · have f32 : ((y : Int) == 32) = false := by simp; omega
            have BC : (bs x).extract i (i + d) = bs ((x.drop i).take d) := by rw [bs_extract, cut_new x i d d2]
            have CC := cat_eq text ((x.drop i).take d)
            have hbig : ¬ 9223372036854775807 < text.length + (bs ((x.drop i).take d)).size := by rw [bs_size, List.length_take]; omega
            have hid2 : (i : Int) + (d : Int) ≤ (x.length : Int) := by omega
            have HW := hid hw
            have HS := hid hS'
            have lt : (text ++ (x.drop i).take d).length ≤ i + d := by rw [List.length_append, List.length_take]; omega
            clear hS' hw e32
            by_cases htx : text = []
            · have hE : (bs text).toList.isEmpty = true := by rw [bs_list, htx]; rfl
              have HX := hid htx
              clear htx
              go_wp2_with fail
              refine WD.out.mono ?_
              rintro _ _ ⟨rfl, rfl⟩
              clear WD
              go_wp2_with fail
              go_roundw
              case rel => exact ⟨t', i + d, col + 1, col + 1, text ++ (x.drop i).take d, a, c, n, by have := HS.out; rwa [if_pos HX.out] at this, by rw [HW.out]; exact HN.out, by rw [HW.out]; exact HO.out, HF.out, KK.out, by omega, by omega, by omega, by omega, lt, rfl, by go_num, by rfl, by go_num, by go_num⟩
              case measure => simp [intOf]; omega
            · have hE : (bs text).toList.isEmpty = false := by rw [bs_list]; simpa using htx
              have HX := hid htx
              clear htx
              go_wp2_with fail
              refine WD.out.mono ?_
              rintro _ _ ⟨rfl, rfl⟩
              clear WD
              go_wp2_with fail
              go_roundw
              case rel => exact ⟨t', i + d, col + 1, at', text ++ (x.drop i).take d, a, c, n, by have := HS.out; rwa [if_neg HX.out] at this, by rw [HW.out]; exact HN.out, by rw [HW.out]; exact HO.out, HF.out, KK.out, by omega, by omega, by omega, by omega, lt, rfl, by go_num, by rfl, by go_num, by go_num⟩
              case measure => simp [intOf]; omega
        · obtain rfl : i = x.length := by omega
          have hli : ¬ (x.length : Int) < (x.length : Int) := by omega
          have hE0 := hS.end
          clear hS hO hF hK hn
          by_cases htx : text = []
          · rw [if_pos htx] at hE0
            have HW := hid (HTW.out.symm.trans hE0)
            have hE : (bs text).toList.isEmpty = true := by rw [bs_list, htx]; rfl
            clear hE0 htx
            go_wp2_with fail
            go_ret
            exact ⟨_, rfl, by rw [HW.out]; exact HO.out, HF.out, KK.out⟩
          · rw [if_neg htx] at hE0
            have HW := hid (HTW.out.symm.trans hE0)
            have hE : (bs text).toList.isEmpty = false := by rw [bs_list]; simpa using htx
            clear hE0 htx
            have K0 : Keep (fun _ => False) wr (wr.alloc (.cells #[.string (bs text), .int .i64 (line : Int), .int .i64 (at' : Int)] 32)) := (Keep.refl _ _).alloc _
            have hown := HO.out.keep K0 (fun _ _ h => h)
            have hsrc := one_srcW wr (text, line, at')
            go_wp2_with (at_builtin; refine wpList_plain rfl (fun K hK => wp_append_words _ (.tmp 65) (.tmp 70) rfl (.slice a n c) t.ws rfl hown _ 1 [(text, line, at')] rfl hsrc (by rw [HN.out]; omega) ?_))
            intro v1 w1 o1 f1 k1
            obtain ⟨a1, n1, hv1⟩ := o1.form
            rw [List.length_append, HN.out] at hv1
            subst hv1
            refine hK _ _ ?_
            clear hK K
            have hsz : (wr.alloc (.cells #[.string (bs text), .int .i64 (line : Int), .int .i64 (at' : Int)] 32)).heap.size = wr.heap.size + 1 := World.size_alloc _ _
            have K2 := hid ((KK.out.trans K0).then k1 (fun k hk => .inr (HF.out k hk)))
            have F2 : Hid (∀ k, (Value.slice a1 (n + 1) n1).ownBlock = some k → w.heap.size ≤ k) := hid (fun k hk => (f1 k hk).elim (HF.out k) (fun h => by have := KK.out.size; omega))
            have O2 := hid o1
            clear o1 f1 k1 hsz K0 hown hsrc
            go_wp2_with fail
            go_ret
            refine ⟨_, rfl, ?_, F2.out, K2.out⟩
            rw [HW.out]
            exact O2.out
end Go.Proofs.Ytknlhbbkjgkjpaa
