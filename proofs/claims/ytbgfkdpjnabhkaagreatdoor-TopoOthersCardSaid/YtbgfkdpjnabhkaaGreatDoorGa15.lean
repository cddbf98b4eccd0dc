import Derived.Test.YtbgfkdpjnabhkaaGreatDoorGa14
set_option linter.unusedVariables false
set_option linter.unusedSimpArgs false
section
set_option maxHeartbeats 4000000
namespace Go.Proofs.YtbgfkdpjnabhkaaGreatDoor.VL
open Go.RowKit Go.Proofs
def nameN (c : UInt8) (n : Nat) : ByteArray := ⟨#[c, UInt8.ofNat (48 + n)]⟩
def addrL (l n : Nat) : Nat := 167772160 + 256 * l + n
theorem avBin_two (t : TypeId) (a b : UInt8) : avBin .add t (.lit (.string ⟨#[a]⟩)) (.lit (.string ⟨#[b]⟩)) = some (.lit (.string ⟨#[a, b]⟩)) := by
  rfl
theorem C_name (c : UInt8) (n : Nat) (hn : n < 10) : AC Tryz.prog f_q59 [avStr ⟨#[c]⟩, avI n] (.lit (.string (nameN c n))) := by
  refine ac_q59 ?_ (Nat.le_add_left 2 _)
  have f1 : ((n : Int) < 10) = True := eq_true (by omega)
  have hw : IntKind.wrap .i64 (48 + (n : Int)) = ((48 + n : Nat) : Int) := by
    have := wrap_nat (48 + n) (by omega)
    rwa [show (48 + (n : Int)) = ((48 + n : Nat) : Int) by omega]
  have hw2 : IntKind.wrap .i32 ((48 + n : Nat) : Int) = ((48 + n : Nat) : Int) := (by decide : ∀ n, n < 10 → IntKind.wrap .i32 ((48 + n : Nat) : Int) = ((48 + n : Nat) : Int)) n hn
  have hi := avI2s_n .i32 ((48 + n : Nat) : Int) (by omega)
  simp only [go_sem, c_q59, avI, avStr, f1, decide_true, hw, hw2, hi, Int.toNat_natCast]
  rw [avBin_two]
  simp only [go_sem, nameN]
theorem bits_addr : ∀ l, l < 10 → ∀ n, n < 12 → bits .or .u32 (bits .or .u32 167772160 (IntKind.wrap .u32 (IntKind.wrap .u32 ((l : Nat) : Int) * 2 ^ 8))) (IntKind.wrap .u32 ((n : Nat) : Int)) = ((addrL l n : Nat) : Int) := by decide +kernel
theorem bits_group : ∀ n, n < 256 → bits .or .u32 3758161920 (IntKind.wrap .u32 ((n : Nat) : Int)) = ((3758161920 + n : Nat) : Int) := by decide +kernel
theorem C_nAddr (l n : Nat) (hl : l < 10) (hn : n < 12) : AC Tryz.prog f_q17 [avI l, avI n] (avU (addrL l n)) := by
  refine ac_q17 ?_ (Nat.le_add_left 2 _)
  simp only [go_sem, c_q17, avI, avU, avBin_shl 32 .u32 .u64 _ 8 (by decide) (by decide), bits_addr l hl n hn]
theorem C_nGroup (n : Nat) (hn : n < 256) : AC Tryz.prog f_q49 [avI n] (avU (3758161920 + n)) := by
  refine ac_q49 ?_ (Nat.le_add_left 1 _)
  simp only [go_sem, c_q49, avI, avU, bits_group n hn]
def linkL (i : Nat) : NLk := ⟨nameN 108 i, addrL i 0, 24⟩
def rtrL (i : Nat) : NRt := ⟨nameN 114 i, 1⟩
def portL (r l : Nat) : NPt := ⟨r, l, addrL l (r + 1)⟩
theorem C_nLink (i : Nat) (hi : i < 10) : AC Tryz.prog f_q58 [avI i] (avLink (linkL i)) := by
  refine ac_q58 ?_ (Nat.le_add_left 1 _)
  simp only [go_sem, c_q58, avI]
  refine callX_of (C_name 108 i hi) ?_
  simp only [go_sem]
  refine callX_of (C_nAddr i 0 hi (by decide)) ?_
  simp only [go_sem, avLink, linkL, avU, avStr]
theorem C_nPort (r l : Nat) (hr : r < 10) (hl : l < 10) : AC Tryz.prog f_q60 [avI r, avI l] (avPort (portL r l)) := by
  refine ac_q60 ?_ (Nat.le_add_left 2 _)
  have hw := wrap_succ r (by omega)
  simp only [go_sem, c_q60, avI, hw]
  refine callX_of (C_nAddr l (r + 1) hl (by omega)) ?_
  simp only [go_sem, avPort, portL, avU]
def rowO (t : List Nat) (e : Nat) (l : List AV) : AV := if l = [] then .sl .nil 0 [] else .sl (.own t) e l
theorem rowO_nil (t : List Nat) (e : Nat) : rowO t e [] = .sl .nil 0 [] := rfl
theorem rowO_cons (t : List Nat) (e : Nat) (x : AV) (l : List AV) : rowO t e (x :: l) = .sl (.own t) e (x :: l) := rfl
theorem rowO_ne {t : List Nat} {e : Nat} {l : List AV} (h : l ≠ []) : rowO t e l = .sl (.own t) e l := if_neg h
def links (k : Nat) : List NLk := (List.range k).map linkL
def L1 (n root i : Nat) : Env := mkE [(0, avI n), (1, avI root), (4, .lp 4 0), (5, .lp 5 0), (6, avI i)] [(4, nils), (5, [.sl .nil 0 [], rowO [21] 3 ((links i).map avLink), .sl .nil 0 [], .sl .nil 0 [], .sl .nil 0 [], .sl .nil 0 [], .sl .nil 0 []])]
def rtrs (k : Nat) : List NRt := (List.range k).map rtrL
def prts (k : Nat) : List NPt := (List.range k).flatMap fun i => [portL i i, portL i (i + 1)]
theorem prts_succ (k : Nat) : prts (k + 1) = prts k ++ [portL k k, portL k (k + 1)] := by simp [prts, List.range_succ]
theorem prts_len : ∀ k, (prts k).length = 2 * k
  | 0 => rfl
  | k + 1 => by rw [prts_succ, List.length_append, prts_len k]; simp; omega
def roA (i k : Nat) : NRo := ⟨i, addrL k 0, 24, addrL i i, ((i - k : Nat) : Int)⟩
def roB (i k : Nat) : NRo := ⟨i, addrL k 0, 24, addrL (i + 1) (i + 2), ((k - i : Nat) : Int)⟩
def rtsK (i k : Nat) : List NRo := (List.range k).flatMap fun k => (if k < i then [roA i k] else []) ++ (if i + 1 < k then [roB i k] else [])
def rtsI (n i : Nat) : List NRo := (List.range i).flatMap fun i => rtsK i (n + 1)
theorem rtsK_succ (i k : Nat) : rtsK i (k + 1) = rtsK i k ++ ((if k < i then [roA i k] else []) ++ (if i + 1 < k then [roB i k] else [])) := by simp [rtsK, List.range_succ]
theorem rtsI_succ (n i : Nat) : rtsI n (i + 1) = rtsI n i ++ rtsK i (n + 1) := by simp [rtsI, List.range_succ]
theorem rtsK_len (i : Nat) : ∀ k, (rtsK i k).length ≤ k
  | 0 => Nat.le_refl 0
  | k + 1 => by
    have := rtsK_len i k
    rw [rtsK_succ, List.length_append, List.length_append]
    split <;> split <;> simp <;> omega
theorem rtsI_len (n : Nat) : ∀ i, (rtsI n i).length ≤ i * (n + 1)
  | 0 => Nat.zero_le _
  | i + 1 => by
    have := rtsI_len n i
    have := rtsK_len i (n + 1)
    rw [rtsI_succ, List.length_append, Nat.succ_mul]
    omega
theorem links_get {n k : Nat} (h : k < n) : (links n)[k]? = some (linkL k) := by simp [links, h]
theorem rts_len (n i k : Nat) (hn : n < 9) (hi : i < 9) (hk : k < 10) : (rtsI n i ++ rtsK i k).length ≤ 1000 := by
  have h1 := rtsI_len n i
  have h2 := rtsK_len i k
  have h3 : i * (n + 1) ≤ 9 * 10 := Nat.mul_le_mul (by omega) (by omega)
  rw [List.length_append]
  omega
def LC (n t : Nat) (rows : List AV) : List (Nat × List AV) := [(4, nils), (5, [rowO [34] 2 ((rtrs n).map avRouter), .sl (.own [21]) 3 ((links (n + 1)).map avLink), rowO [46] 3 ((prts n).map avPort), rowO [t] 5 rows, .sl .nil 0 [], .sl .nil 0 [], .sl .nil 0 []])]
def L3 (n root i t : Nat) : Env := mkE [(0, avI n), (1, avI root), (4, .lp 4 0), (5, .lp 5 0), (8, avI i)] (LC n t ((rtsI n i).map avRoute))
def L4 (n root i k t : Nat) : Env := mkE [(0, avI n), (1, avI root), (4, .lp 4 0), (5, .lp 5 0), (8, avI i), (9, avI k)] (LC n t ((rtsI n i ++ rtsK i k).map avRoute))
def L2 (n root i : Nat) : Env := mkE [(0, avI n), (1, avI root), (4, .lp 4 0), (5, .lp 5 0), (7, avI i)] [(4, nils), (5, [rowO [34] 2 ((rtrs i).map avRouter), .sl (.own [21]) 3 ((links (n + 1)).map avLink), rowO [46] 3 ((prts i).map avPort), .sl .nil 0 [], .sl .nil 0 [], .sl .nil 0 [], .sl .nil 0 []])]
def lineO (n root : Nat) : List AV := [.sl (.own [34]) 2 ((rtrs n).map avRouter), .sl (.own [21]) 3 ((links (n + 1)).map avLink), .sl (.own [46]) 3 ((prts n).map avPort), rowO [78] 5 ((rtsI n n).map avRoute), .sl (.own [111]) 3 [avRange ⟨3758096384, 4, addrL root (root + 1)⟩], .sl .nil 0 [], .sl .nil 0 []]
theorem resOK_rowO (t : List Nat) (e : Nat) (l : List AV) : resOK (rowO t e l) = true := by
  unfold rowO
  split <;> rfl
theorem resOK_line (n root : Nat) : resOK (.agg (lineO n root)) = true := by
  have := resOK_rowO [78] 5 ((rtsI n n).map avRoute)
  simp only [lineO, resOK, resOKL, this, Bool.and_self]
theorem C_LineO (n root : Nat) (hn0 : 0 < n) (hn : n < 9) (hr : root < 9) : AC Tryz.prog f_q16 [avI n, avI root] (.agg (lineO n root)) := by
  refine ac_q16 ?_ (Nat.le_add_left 2 _) (resOK_line n root)
  simp only [go_sem, c_q16, avI]
  refine aw_loop (fun m E => ∃ i : Nat, i + m = n + 1 ∧ E = L1 n root i) (n + 1) ?_ ?_
  · exact ⟨0, by omega, by simp only [go_sem, L1]; rfl⟩
  · rintro m _ ⟨i, him, rfl⟩
    by_cases hil : i ≤ n
    · have f1 : ((i : Int) ≤ (n : Int)) = True := eq_true (by omega)
      have hw := wrap_succ i (by omega)
      cases i with
      | zero =>
        simp only [go_sem, L1, links, List.range_zero, List.map_nil, rowO_nil, avI, f1, decide_true]
        refine callX_of (C_nLink 0 (by decide)) ?_
        have ea : ∀ s c, avApp 3 32 [] 21 s c (.sl .nil 0 []) (.sl (.own [20]) 3 [avLink (linkL 0)]) = _ := fun s c => avApp_nil (d := 21) (s := s) (c := c) 3 32 0 [] [] [avLink (linkL 0)] (.own [20]) (by decide) (by decide)
        simp only [go_sem, avLink, avU, avStr] at ea ⊢
        simp only [go_sem, ea]
        exact ⟨m - 1, by omega, 1, by omega, rfl⟩
      | succ j =>
        have e1 : (links (j + 1 + 1)).map avLink = (links (j + 1)).map avLink ++ [avLink (linkL (j + 1))] := by simp [links, List.range_succ]
        have e2 : rowO [21] 3 ((links (j + 1)).map avLink) = .sl (.own [21]) 3 ((links (j + 1)).map avLink) := rowO_ne (by simp [links])
        have e3 : rowO [21] 3 ((links (j + 1)).map avLink ++ [avLink (linkL (j + 1))]) = .sl (.own [21]) 3 ((links (j + 1)).map avLink ++ [avLink (linkL (j + 1))]) := rowO_ne (by simp)
        have hlen : ((links (j + 1)).map avLink).length + [avLink (linkL (j + 1))].length ≤ 4294967296 := by simp [links]; omega
        simp only [L1, e2]
        have hL := C_nLink (j + 1) (by omega)
        have ea : ∀ s c, avApp 3 32 [] 21 s c (.sl (.own [21]) 3 ((links (j + 1)).map avLink)) (.sl (.own [20]) 3 [avLink (linkL (j + 1))]) = _ := fun s c => avApp_own (d := 21) (s := s) (c := c) 3 32 [] [21] ((links (j + 1)).map avLink) [avLink (linkL (j + 1))] (.own [20]) hlen (by decide) rfl
        generalize (links (j + 1)).map avLink = R at *
        simp only [go_sem, avI, f1, decide_true]
        refine callX_of hL ?_
        simp only [go_sem, avLink, avU, avStr] at ea ⊢
        simp only [go_sem, ea, hw]
        refine ⟨m - 1, by omega, j + 1 + 1, by omega, ?_⟩
        rw [e1, e3]
        rfl
    · have f1 : ((i : Int) ≤ (n : Int)) = False := eq_false (by omega)
      have ei : i = n + 1 := by omega
      subst ei
      have e2 : rowO [21] 3 ((links (n + 1)).map avLink) = .sl (.own [21]) 3 ((links (n + 1)).map avLink) := rowO_ne (by simp [links])
      simp only [go_sem, L1, e2, avI, f1, decide_false]
      refine aw_loop (fun m E => ∃ i : Nat, i + m = n ∧ E = L2 n root i) n ?_ ?_
      · exact ⟨0, by omega, rfl⟩
      · rintro m _ ⟨i, him, rfl⟩
        by_cases hil : i < n
        · have f1 : ((i : Int) < (n : Int)) = True := eq_true (by omega)
          have hw := wrap_succ i (by omega)
          have hN := C_name 114 i (by omega)
          have hP1 := C_nPort i i (by omega) (by omega)
          have hP2 := C_nPort i (i + 1) (by omega) (by omega)
          cases i with
          | zero =>
            simp only [go_sem, L2, rtrs, prts, List.range_zero, List.map_nil, List.flatMap_nil, rowO_nil, avI, f1, decide_true]
            refine callX_of hN ?_
            have ea : ∀ s c, avApp 2 24 [] 34 s c (.sl .nil 0 []) (.sl (.own [33]) 2 [avRouter (rtrL 0)]) = _ := fun s c => avApp_nil (d := 34) (s := s) (c := c) 2 24 0 [] [] [avRouter (rtrL 0)] (.own [33]) (by decide) (by decide)
            have eb : ∀ s c, avApp 3 24 [] 46 s c (.sl .nil 0 []) (.sl (.own [45]) 3 [avPort (portL 0 0), avPort (portL 0 (0 + 1))]) = _ := fun s c => avApp_nil (d := 46) (s := s) (c := c) 3 24 0 [] [] [avPort (portL 0 0), avPort (portL 0 (0 + 1))] (.own [45]) (by decide) (by decide)
            simp only [go_sem, avRouter, rtrL, avU, avStr] at ea ⊢
            simp only [go_sem, ea]
            refine callX_of hP1 ?_
            simp only [go_sem, hw]
            refine callX_of hP2 ?_
            simp only [go_sem, avPort, avU] at eb ⊢
            simp only [go_sem, eb, hw]
            exact ⟨m - 1, by omega, 1, by omega, rfl⟩
          | succ j =>
            have e1 : (rtrs (j + 1 + 1)).map avRouter = (rtrs (j + 1)).map avRouter ++ [avRouter (rtrL (j + 1))] := by simp [rtrs, List.range_succ]
            have e1' : (prts (j + 1 + 1)).map avPort = (prts (j + 1)).map avPort ++ [avPort (portL (j + 1) (j + 1)), avPort (portL (j + 1) (j + 1 + 1))] := by simp [prts, List.range_succ]
            have e2 : rowO [34] 2 ((rtrs (j + 1)).map avRouter) = .sl (.own [34]) 2 ((rtrs (j + 1)).map avRouter) := rowO_ne (by simp [rtrs])
            have e2' : rowO [46] 3 ((prts (j + 1)).map avPort) = .sl (.own [46]) 3 ((prts (j + 1)).map avPort) := rowO_ne (by simp [prts, List.range_succ])
            have e3 : rowO [34] 2 ((rtrs (j + 1)).map avRouter ++ [avRouter (rtrL (j + 1))]) = .sl (.own [34]) 2 ((rtrs (j + 1)).map avRouter ++ [avRouter (rtrL (j + 1))]) := rowO_ne (by simp)
            have e3' : rowO [46] 3 ((prts (j + 1)).map avPort ++ [avPort (portL (j + 1) (j + 1)), avPort (portL (j + 1) (j + 1 + 1))]) = .sl (.own [46]) 3 ((prts (j + 1)).map avPort ++ [avPort (portL (j + 1) (j + 1)), avPort (portL (j + 1) (j + 1 + 1))]) := rowO_ne (by simp)
            have hlen : ((rtrs (j + 1)).map avRouter).length + [avRouter (rtrL (j + 1))].length ≤ 4294967296 := by simp [rtrs]; omega
            have hlen' : ((prts (j + 1)).map avPort).length + [avPort (portL (j + 1) (j + 1)), avPort (portL (j + 1) (j + 1 + 1))].length ≤ 4294967296 := by
              have := prts_len (j + 1)
              simp [this]; omega
            simp only [L2, e2, e2']
            have ea : ∀ s c, avApp 2 24 [] 34 s c (.sl (.own [34]) 2 ((rtrs (j + 1)).map avRouter)) (.sl (.own [33]) 2 [avRouter (rtrL (j + 1))]) = _ := fun s c => avApp_own (d := 34) (s := s) (c := c) 2 24 [] [34] ((rtrs (j + 1)).map avRouter) [avRouter (rtrL (j + 1))] (.own [33]) hlen (by decide) rfl
            have eb : ∀ s c, avApp 3 24 [] 46 s c (.sl (.own [46]) 3 ((prts (j + 1)).map avPort)) (.sl (.own [45]) 3 [avPort (portL (j + 1) (j + 1)), avPort (portL (j + 1) (j + 1 + 1))]) = _ := fun s c => avApp_own (d := 46) (s := s) (c := c) 3 24 [] [46] ((prts (j + 1)).map avPort) [avPort (portL (j + 1) (j + 1)), avPort (portL (j + 1) (j + 1 + 1))] (.own [45]) hlen' (by decide) rfl
            generalize (rtrs (j + 1)).map avRouter = R at *
            generalize (prts (j + 1)).map avPort = Q at *
            simp only [go_sem, avI, f1, decide_true]
            refine callX_of hN ?_
            simp only [go_sem, avRouter, rtrL, avU, avStr] at ea ⊢
            simp only [go_sem, ea]
            refine callX_of hP1 ?_
            simp only [go_sem, hw]
            refine callX_of hP2 ?_
            simp only [go_sem, avPort, avU] at eb ⊢
            simp only [go_sem, eb, hw]
            refine ⟨m - 1, by omega, j + 1 + 1, by omega, ?_⟩
            rw [e1, e1', e3, e3']
            rfl
        · have f1 : ((i : Int) < (n : Int)) = False := eq_false (by omega)
          have ei : n = i := by omega
          subst ei
          simp only [go_sem, L2, avI, f1, decide_false]
          refine aw_loop (fun m E => ∃ i t : Nat, i + m = n ∧ (t = 78 ∨ t = 103) ∧ (i = n → 2 ≤ n → t = 78) ∧ E = L3 n root i t) n ?_ ?_
          · exact ⟨0, 78, by omega, .inl rfl, fun _ _ => rfl, rfl⟩
          · rintro m _ ⟨i, t, him, ht, ht2, rfl⟩
            by_cases hil : i < n
            · have f1 : ((i : Int) < (n : Int)) = True := eq_true (by omega)
              have hw := wrap_succ i (by omega)
              have er : rowO [34] 2 ((rtrs n).map avRouter) = .sl (.own [34]) 2 ((rtrs n).map avRouter) := rowO_ne (by simp [rtrs]; omega)
              have ep : rowO [46] 3 ((prts n).map avPort) = .sl (.own [46]) 3 ((prts n).map avPort) := rowO_ne (by
                intro e
                have := congrArg List.length e
                rw [List.length_map, prts_len] at this
                simp at this
                omega)
              simp only [go_sem, L3, avI, f1, decide_true, LC]
              refine aw_loop (fun m E => ∃ k t : Nat, k + m = n + 1 ∧ (t = 78 ∨ t = 103) ∧ (i + 1 = n → 1 ≤ k → 1 ≤ i → t = 78) ∧ E = L4 n root i k t) (n + 1) ?_ ?_
              · refine ⟨0, t, by omega, ht, fun _ h => absurd h (by omega), ?_⟩
                simp only [go_sem, L4, LC, rtsK, List.range_zero, List.flatMap_nil, List.append_nil, avI, Int.natCast_zero]
              · rintro m2 _ ⟨k, t, hkm, ht, ht3, rfl⟩
                by_cases hkn : k ≤ n
                · have g1 : ((k : Int) ≤ (n : Int)) = True := eq_true (by omega)
                  have hw2 := wrap_succ k (by omega)
                  by_cases hki : k < i
                  · have g2 : ((k : Int) < (i : Int)) = True := eq_true (by omega)
                    have g3 : ((k : Int) > ((i + 1 : Nat) : Int)) = False := eq_false (by omega)
                    have g4 : (((i + 1 : Nat) : Int) < (k : Int)) = False := eq_false (by omega)
                    have hA := C_nAddr i i (by omega) (by omega)
                    have hws : IntKind.wrap .i64 ((i : Int) - (k : Int)) = ((i - k : Nat) : Int) := by
                      have := wrap_nat (i - k) (by omega)
                      rwa [show ((i - k : Nat) : Int) = (i : Int) - (k : Int) by omega] at this ⊢
                    have e1 : (rtsI n i ++ rtsK i (k + 1)).map avRoute = (rtsI n i ++ rtsK i k).map avRoute ++ [avRoute (roA i k)] := by
                      rw [rtsK_succ, if_pos hki, if_neg (by omega)]
                      simp
                    have hl := links_get (n := n + 1) (k := k) (by omega)
                    have hlen := rts_len n i k (by omega) (by omega) (by omega)
                    simp only [L4, LC, e1, er, ep]
                    have hR : ((rtsI n i ++ rtsK i k).map avRoute).length ≤ 1000 := by rw [List.length_map]; exact hlen
                    generalize (rtsI n i ++ rtsK i k).map avRoute = R at *
                    have hr3 := fun cs => avRow_some 3 (.own [21]) (AV.agg cs) rfl
                    cases R with
                    | nil =>
                      have ea : ∀ s c, avApp 5 40 [] 78 s c (.sl .nil 0 []) (.sl (.own [77]) 5 [avRoute (roA i k)]) = _ := fun s c => avApp_nil (d := 78) (s := s) (c := c) 5 40 0 [] [] [avRoute (roA i k)] (.own [77]) (by simp) (by decide)
                      simp only [go_sem, avI, g1, g2, g3, g4, hw, decide_true, decide_false, rowO_nil, Int.natCast_nonneg, Int.toNat_natCast, List.getElem?_map, hl, Option.map_some, avLink, avU, hr3]
                      refine callX_of hA ?_
                      simp only [go_sem, avRoute, roA, avU, hws, linkL] at ea ⊢
                      simp only [go_sem, ea, g1, g2, g3, g4, hw, decide_true, decide_false, hw2]
                      exact ⟨m2 - 1, by omega, k + 1, 78, by omega, .inl rfl, fun _ _ _ => rfl, by rw [e1]; rfl⟩
                    | cons r rs =>
                      have ea : ∀ s c, avApp 5 40 [] 78 s c (.sl (.own [t]) 5 (r :: rs)) (.sl (.own [77]) 5 [avRoute (roA i k)]) = _ := fun s c => avApp_own (d := 78) (s := s) (c := c) 5 40 [] [t] (r :: rs) [avRoute (roA i k)] (.own [77]) (by simp at hR ⊢; omega) (by decide) rfl
                      simp only [go_sem, avI, g1, g2, g3, g4, hw, decide_true, decide_false, rowO_cons, Int.natCast_nonneg, Int.toNat_natCast, List.getElem?_map, hl, Option.map_some, avLink, avU, hr3]
                      refine callX_of hA ?_
                      simp only [go_sem, avRoute, roA, avU, hws, linkL] at ea ⊢
                      rcases ht with rfl | rfl
                      all_goals
                        simp only [go_sem, ea, g1, g2, g3, g4, hw, decide_true, decide_false, hw2]
                        exact ⟨m2 - 1, by omega, k + 1, 78, by omega, .inl rfl, fun _ _ _ => rfl, by rw [e1]; rfl⟩
                  · have g2 : ((k : Int) < (i : Int)) = False := eq_false (by omega)
                    by_cases hki2 : i + 1 < k
                    · have g3 : ((k : Int) > ((i + 1 : Nat) : Int)) = True := eq_true (by omega)
                      have g4 : (((i + 1 : Nat) : Int) < (k : Int)) = True := eq_true (by omega)
                      have hw3 : IntKind.wrap .i64 ((i : Int) + 2) = ((i + 2 : Nat) : Int) := wrap_nat (i + 2) (by omega)
                      have hA := C_nAddr (i + 1) (i + 2) (by omega) (by omega)
                      have hws : IntKind.wrap .i64 ((k : Int) - (i : Int)) = ((k - i : Nat) : Int) := by
                        have := wrap_nat (k - i) (by omega)
                        rwa [show ((k - i : Nat) : Int) = (k : Int) - (i : Int) by omega] at this ⊢
                      have e1 : (rtsI n i ++ rtsK i (k + 1)).map avRoute = (rtsI n i ++ rtsK i k).map avRoute ++ [avRoute (roB i k)] := by
                        rw [rtsK_succ, if_neg (by omega), if_pos (by omega)]
                        simp
                      have hl := links_get (n := n + 1) (k := k) (by omega)
                      have hlen := rts_len n i k (by omega) (by omega) (by omega)
                      simp only [L4, LC, e1, er, ep]
                      have hR : ((rtsI n i ++ rtsK i k).map avRoute).length ≤ 1000 := by rw [List.length_map]; exact hlen
                      generalize (rtsI n i ++ rtsK i k).map avRoute = R at *
                      have hr3 := fun cs => avRow_some 3 (.own [21]) (AV.agg cs) rfl
                      cases R with
                      | nil =>
                        have ea : ∀ s c, avApp 5 40 [] 103 s c (.sl .nil 0 []) (.sl (.own [102]) 5 [avRoute (roB i k)]) = _ := fun s c => avApp_nil (d := 103) (s := s) (c := c) 5 40 0 [] [] [avRoute (roB i k)] (.own [102]) (by simp) (by decide)
                        simp only [go_sem, avI, g1, g2, g3, g4, hw, hw3, decide_true, decide_false, rowO_nil, Int.natCast_nonneg, Int.toNat_natCast, List.getElem?_map, hl, Option.map_some, avLink, avU, hr3]
                        refine callX_of hA ?_
                        simp only [go_sem, avRoute, roB, avU, hws, linkL] at ea ⊢
                        simp only [go_sem, ea, g1, g2, g3, g4, hw, hw3, decide_true, decide_false, hw2]
                        exact ⟨m2 - 1, by omega, k + 1, 103, by omega, .inr rfl, fun h => absurd h (by omega), by rw [e1]; rfl⟩
                      | cons r rs =>
                        have ea : ∀ s c, avApp 5 40 [] 103 s c (.sl (.own [t]) 5 (r :: rs)) (.sl (.own [102]) 5 [avRoute (roB i k)]) = _ := fun s c => avApp_own (d := 103) (s := s) (c := c) 5 40 [] [t] (r :: rs) [avRoute (roB i k)] (.own [102]) (by simp at hR ⊢; omega) (by decide) rfl
                        simp only [go_sem, avI, g1, g2, g3, g4, hw, hw3, decide_true, decide_false, rowO_cons, Int.natCast_nonneg, Int.toNat_natCast, List.getElem?_map, hl, Option.map_some, avLink, avU, hr3]
                        refine callX_of hA ?_
                        simp only [go_sem, avRoute, roB, avU, hws, linkL] at ea ⊢
                        rcases ht with rfl | rfl
                        all_goals
                          simp only [go_sem, ea, g1, g2, g3, g4, hw, hw3, decide_true, decide_false, hw2]
                          exact ⟨m2 - 1, by omega, k + 1, 103, by omega, .inr rfl, fun h => absurd h (by omega), by rw [e1]; rfl⟩
                    · have g3 : ((k : Int) > ((i + 1 : Nat) : Int)) = False := eq_false (by omega)
                      have g4 : (((i + 1 : Nat) : Int) < (k : Int)) = False := eq_false (by omega)
                      have e1 : (rtsI n i ++ rtsK i (k + 1)).map avRoute = (rtsI n i ++ rtsK i k).map avRoute := by
                        rw [rtsK_succ, if_neg (by omega), if_neg (by omega)]
                        simp
                      simp only [L4, LC, e1, er, ep]
                      simp only [go_sem, avI, g1, g2, g3, g4, hw, hw2, decide_true, decide_false]
                      exact ⟨m2 - 1, by omega, k + 1, t, by omega, ht, fun h1 _ h2 => ht3 h1 (by omega) h2, by rw [e1]⟩
                · have g1 : ((k : Int) ≤ (n : Int)) = False := eq_false (by omega)
                  have ek : k = n + 1 := by omega
                  subst ek
                  simp only [go_sem, L4, LC, avI, g1, decide_false, hw]
                  refine ⟨m - 1, by omega, i + 1, t, by omega, ht, fun h1 h2 => ht3 h1 (by omega) (by omega), ?_⟩
                  rw [rtsI_succ]
            · have f1 : ((i : Int) < (n : Int)) = False := eq_false (by omega)
              have ei : n = i := by omega
              subst ei
              simp only [go_sem, L3, LC, avI, f1, decide_false]
              have hw := wrap_succ root (by omega)
              have er : rowO [34] 2 ((rtrs n).map avRouter) = .sl (.own [34]) 2 ((rtrs n).map avRouter) := rowO_ne (by simp [rtrs]; omega)
              have ep : rowO [46] 3 ((prts n).map avPort) = .sl (.own [46]) 3 ((prts n).map avPort) := rowO_ne (by
                intro e
                have := congrArg List.length e
                rw [List.length_map, prts_len] at this
                simp at this
                omega)
              refine callX_of C_rGroups ?_
              simp only [go_sem, avPfx, hw, er, ep]
              refine callX_of (C_nAddr root (root + 1) (by omega) (by omega)) ?_
              simp only [lineO]
              by_cases h2 : 2 ≤ n
              · obtain rfl := ht2 rfl h2
                generalize (rtsI n n).map avRoute = R
                cases R with
                | nil => simp only [go_sem, rowO_nil, avU, nils, avRange]
                | cons r rs => simp only [go_sem, rowO_cons, avU, nils, avRange]
              · have e0 : (rtsI n n).map avRoute = [] := by
                  obtain rfl : n = 1 := by omega
                  rfl
                simp only [go_sem, e0, rowO_nil, avU, nils, avRange]
theorem rep_own {F : RE} {τ : List Nat} {e : Nat} {rows : List AV} {v : Value} (h : Rep F (.sl (.own τ) e rows) v) : Rep F (.sl .none e rows) v := by
  simp only [Rep] at h ⊢
  obtain ⟨A, cap, vs, rfl, h1, h2, h3, h4, h5⟩ := h
  refine ⟨A, cap, vs, rfl, h1, h2, h3, h4, fun hne => ?_⟩
  rcases h5 with ⟨_, h0⟩ | ⟨g, cur, ty, rfl, hat, _⟩
  · have : rows.length = 0 := by omega
    exact absurd (List.length_eq_zero_iff.1 this) hne
  · exact ⟨g, 0, rfl, hat⟩
theorem wk_own (τ : List Nat) (e : Nat) (rows : List AV) : Wk (.sl (.own τ) e rows) (.sl .none e rows) := fun _ _ h => rep_own h
theorem wk_rowO (τ : List Nat) (e : Nat) (rows : List AV) : Wk (rowO τ e rows) (.sl .none e rows) := by
  unfold rowO
  split
  · rename_i h
    subst h
    exact wk_nil 0 e
  · exact wk_own τ e rows
def lineW (n root : Nat) : NW := ⟨rtrs n, links (n + 1), prts n, rtsI n n, [⟨3758096384, 4, addrL root (root + 1)⟩], [], []⟩
theorem C_Line (n root : Nat) (hn0 : 0 < n) (hn : n < 9) (hr : root < 9) : AC Tryz.prog f_q16 [avI n, avI root] (.agg (netV (lineW n root))) :=
  AC_weak (C_LineO n root hn0 hn hr) (wk_agg ⟨wk_own _ _ _, wk_own _ _ _, wk_own _ _ _, wk_rowO _ _ _, wk_own _ _ _, wk_nil _ _, wk_nil _ _, trivial⟩)
end Go.Proofs.YtbgfkdpjnabhkaaGreatDoor.VL
end

section
set_option maxHeartbeats 4000000
namespace Go.Proofs.YtbgfkdpjnabhkaaGreatDoor.VL
open Go.RowKit Go.Proofs
theorem line_v21 : vNet (lineW 2 1) = none := by decide +kernel
theorem line_ok21 : (lineW 2 1).OK := by
  constructor <;> decide +kernel
theorem line_r21 : routerN (lineW 2 1) 3758161921 = some 1 := by decide +kernel
theorem w0_i : rootI w0 3758161921 = false := by decide +kernel
theorem C_first10 : AC Tryz.prog f_q7 [] (.lit (.bool true)) := by
  refine ac_q7 ?_ (Nat.zero_le _)
  simp only [go_sem, c_q7]
  refine callX_of C_New0 ?_
  simp only [go_sem]
  refine callX_of (C_nGroup 1 (by decide)) ?_
  simp only [go_sem]
  refine callX_of (C_rootOf w0 w0_ok 3758161921 (by decide) (by decide)) ?_
  simp only [go_sem, w0_i]
  refine callX_of (C_Line 2 1 (by decide) (by decide) (by decide)) ?_
  simp only [go_sem, low_net, one_net, len_net, take_net, Nat.le_refl]
  refine callX_of (C_New (lineW 2 1) line_ok21 (vfit line_v21) line_v21) ?_
  simp only [go_sem]
  refine callX_of (C_nGroup 1 (by decide)) ?_
  simp only [go_sem]
  refine callX_of (C_rootRouter (lineW 2 1) line_ok21 3758161921 (by decide) (by decide)) ?_
  simp only [go_sem, line_r21, Option.isSome_some, Option.getD_some]
theorem router_some {w : NW} (hv : vNet w = none) {g : Nat} {q : Int} (h : routerN w g = some q) : rootI w g = true ∧ ∃ (p j : Nat) (x : NPt), atP w (rootA w g) = some p ∧ w.pts[p]? = some x ∧ x.rt = q ∧ q = (j : Int) ∧ j < w.rts.length := by
  unfold routerN at h
  split at h
  · rename_i hI
    refine ⟨hI, ?_⟩
    obtain ⟨p, hp, hx⟩ := Option.bind_eq_some_iff.1 h
    obtain ⟨x, hx, e⟩ := Option.map_eq_some_iff.1 hx
    obtain ⟨j, hj, hl⟩ := (portOK hv hx).rt
    exact ⟨p, j, x, hp, hx, e, by rw [← e, hj], hl⟩
  · cases h
end Go.Proofs.YtbgfkdpjnabhkaaGreatDoor.VL
end

section
set_option maxHeartbeats 4000000
namespace Go.Proofs.YtbgfkdpjnabhkaaGreatDoor.VL
open Go.RowKit Go.Proofs
theorem range_group {w : NW} (hv : vNet w = none) {x : NRg} (hm : x ∈ w.rgs) {g : Nat} (h : inN x.a x.b g = true) : groupN g = true := by
  obtain ⟨i, hx⟩ := List.getElem?_of_mem hm
  have hi : i < w.rgs.length := (List.getElem?_eq_some_iff.1 hx).1
  have h0 := (vNet_ok hv 4 i (by decide) hi).2
  simp only [vAt, hx, Option.bind_some, rgOf] at h0
  obtain ⟨h1, h0⟩ := ite_none h0
  obtain ⟨h2, h0⟩ := ite_none h0
  simp only [Bool.not_eq_false, Bool.and_eq_true] at h1 h2
  have hw := h2.1
  simp only [withinN, inN, Bool.and_eq_true, decide_eq_true_eq] at hw h
  obtain ⟨_, hb, _, he⟩ := hw
  obtain ⟨_, h⟩ := h
  obtain ⟨k, hk⟩ : ∃ k, 32 - x.b.toNat = k ∧ k ≤ 28 := ⟨_, rfl, by omega⟩
  rw [hk.1] at h
  have hM : 2 ^ 28 = 2 ^ k * 2 ^ (28 - k) := by rw [← Nat.pow_add]; congr 1; omega
  have hD : 0 < 2 ^ k := Nat.two_pow_pos k
  generalize hDD : 2 ^ k = D at *
  generalize 2 ^ (28 - k) = M at *
  have hlt := Nat.mod_lt g hD
  have hxa : x.a = D * (g / D) := by have := Nat.div_add_mod g D; omega
  have e28 : 2 ^ (32 - Int.toNat 4) = 268435456 := by decide
  rw [e28] at he
  have h28 : (268435456 : Nat) = D * M := by rw [← hM]
  have hlo : 3758096384 ≤ x.a := by omega
  have hhi : x.a < 4026531840 := by
    have := Nat.mod_lt x.a (show 0 < 268435456 by decide)
    omega
  have h15 : x.a < D * (15 * M) := by
    rw [Nat.mul_left_comm, ← h28]
    exact hhi
  have hq : g / D < 15 * M := by
    rw [hxa] at h15
    exact Nat.lt_of_mul_lt_mul_left h15
  have hup : D * (g / D + 1) ≤ D * (15 * M) := Nat.mul_le_mul_left D hq
  have h15e : D * (15 * M) = 4026531840 := by rw [Nat.mul_left_comm, ← h28]
  rw [h15e, Nat.mul_add, Nat.mul_one, ← hxa] at hup
  have hdm := Nat.div_add_mod g D
  simp only [groupN, Bool.and_eq_true, decide_eq_true_eq]
  omega
theorem rootS_eq {w : NW} (hv : vNet w = none) (g : Nat) : rootS w true g w.rgs.length = rootS w (groupN g) g w.rgs.length := by
  cases hg : groupN g
  · have key : ∀ (b : Bool) (l : List NRg) (s : Nat × Int), (∀ x ∈ l, x ∈ w.rgs) → l.foldl (rootStep b g) s = s := by
      intro b l
      induction l with
      | nil => intro s _; rfl
      | cons x l ih =>
        intro s hl
        have hx : inN x.a x.b g = false := by
          cases h : inN x.a x.b g
          · rfl
          · rw [range_group hv (hl x (by simp)) h] at hg; cases hg
        have e : rootStep b g s x = s := by simp [rootStep, hx]
        rw [List.foldl_cons, e]
        exact ih s fun y hy => hl y (by simp [hy])
    unfold rootS
    rw [key true _ _ fun x hx => List.mem_of_mem_take hx, key false _ _ fun x hx => List.mem_of_mem_take hx]
  · rfl
theorem router_ref {w : NW} (hv : vNet w = none) (g : Nat) :
    (if 0 ≤ (rootS w true g w.rgs.length).2 then (match atP w (rootS w true g w.rgs.length).1 with | some p => (match w.pts[p]? with | some x => x.rt | none => -1) | none => -1) else -1)
      = match routerN w g with | some q => q | none => -1 := by
  rw [rootS_eq hv]
  unfold routerN rootI rootA
  generalize rootS w (groupN g) g w.rgs.length = S
  by_cases h0 : 0 ≤ S.2
  · rw [if_pos h0, if_pos (by simp [h0])]
    cases hp : atP w S.1 with
    | none => rfl
    | some p =>
      obtain ⟨x, hx, _⟩ := atP_lt hp
      simp [hx]
  · rw [if_neg h0, if_neg (by simp [h0])]
theorem C_RootSays (w : NW) (h : w.OK) (g : Nat) (hg : g < 4294967296) (r : Int) : AC Tryz.prog f_q0 [.agg (netV w), avU g, .lit (.int .i64 r)] (.lit (.bool true)) := by
  refine ac_q0 ?_ (Nat.le_add_left 3 _)
  simp only [go_sem, c_q0, low_net, one_net, len_net, take_net, Nat.le_refl, avU]
  refine callX_of C_first10 ?_
  simp only [go_sem, low_net, one_net, len_net, take_net, Nat.le_refl]
  refine callX_of (C_Light w h 8) ?_
  cases hL : lightN w 8
  · simp only [go_sem]
  have lo := lightN_iff.1 hL
  have hv := lo.v
  have hf := vfit hv
  have z3 := lo.l3
  have z5 := lo.l5
  simp only [go_sem, low_net, one_net, len_net, take_net, Nat.le_refl]
  refine callX_of (C_New w h hf hv) ?_
  simp only [go_sem]
  refine callX_of (C_rootOf w h g hg (by omega)) ?_
  simp only [go_sem, avU, low_net, one_net, len_net, take_net, Nat.le_refl]
  have hR := C_rRoot w h g hg (by omega)
  have hRR : AC Tryz.prog f_q13 [.agg (netV w), avU g] (.lit (.int .i64 (match routerN w g with | some q => q | none => -1))) := by
    rw [← router_ref hv g]
    exact C_rRootRouter w h g hg (by omega) (by omega)
  rw [rootS_eq hv] at hR
  have hR' : AC Tryz.prog f_q11 [.agg (netV w), avU g] (.tup [avU (rootA w g), .lit (.bool (rootI w g))]) := hR
  have hIs := C_rootIs w h r g hg (by omega)
  refine callX_of hR' ?_
  simp only [go_sem, avU]
  refine callX_of (C_rootRouter w h g hg (by omega)) ?_
  simp only [go_sem, low_net, one_net, len_net, take_net, Nat.le_refl]
  refine callX_of hRR ?_
  cases hq : routerN w g with
  | none =>
    rw [hq] at hIs
    have n1 : (((-1 : Int)) ≥ 0) = False := eq_false (by decide)
    have n2 : (0 ≤ ((-1 : Int))) = False := eq_false (by decide)
    have e1 : (rootI w g == rootI w g) = true := beq_self_eq_true _
    have e2 : ((rootA w g : Int) == (rootA w g : Int)) = true := beq_self_eq_true _
    simp only [go_sem, Option.isSome_none, Option.getD_none, e1, e2, n1, n2, decide_false]
    refine callX_of hIs ?_
    simp only [go_sem, n1, n2, decide_false]
  | some q =>
    obtain ⟨hI, p, j, x, hp, hx, hxr, hqj, hjl⟩ := router_some hv hq
    rw [hq] at hIs
    subst hqj
    have n1 : ((j : Int) ≥ 0) = True := eq_true (by omega)
    have n2 : (0 ≤ (j : Int)) = True := eq_true (by omega)
    have e1 : (rootI w g == rootI w g) = true := beq_self_eq_true _
    have e2 : ((rootA w g : Int) == (rootA w g : Int)) = true := beq_self_eq_true _
    have e3 : ((j : Int) == (j : Int)) = true := beq_self_eq_true _
    simp only [go_sem, Option.isSome_some, Option.getD_some, e1, e2, e3, n1, n2, decide_true]
    refine callX_of hIs ?_
    cases hb : ((j : Int) == r)
    all_goals simp only [go_sem, n1, n2, decide_true, hb]
end Go.Proofs.YtbgfkdpjnabhkaaGreatDoor.VL
end

section
set_option maxHeartbeats 4000000
namespace Go.Proofs.YtbgfkdpjnabhkaaGreatDoor.VL
open Go.RowKit Go.Proofs
def oneR (w : NW) (a : Nat) : NW := { w with rgs := [⟨3758096384, 4, a⟩] }
theorem oneR_ok {w : NW} (h : w.OK) {a : Nat} (ha : a < 4294967296) : (oneR w a).OK := by
  constructor
  case rga => intro x hx; simp [oneR] at hx; subst hx; exact (by decide : 3758096384 < 4294967296)
  case rgr => intro x hx; simp [oneR] at hx; subst hx; exact ha
  case l5 => simp [oneR]
  all_goals first | exact h.rtn | exact h.lkn | exact h.lka | exact h.pta | exact h.roa | exact h.rov | exact h.scs | exact h.scg | exact h.mbg | exact h.mbs | exact h.mbl | exact h.l1 | exact h.l2 | exact h.l3 | exact h.l4 | exact h.l6 | exact h.l7
theorem in_groups {g : Nat} (hg : g < 4294967296) : inN 3758096384 4 g = groupN g := by
  have e28 : 2 ^ (32 - Int.toNat 4) = 268435456 := by decide
  have ev : validN 3758096384 4 = true := by decide +kernel
  rw [inN, ev, e28, Bool.true_and, groupN, Bool.eq_iff_iff]
  simp only [Bool.and_eq_true, decide_eq_true_eq]
  omega
theorem oneR_S {w : NW} {a g : Nat} (hg : g < 4294967296) : rootS (oneR w a) (groupN g) g (oneR w a).rgs.length = if groupN g = true then (a, 4) else (0, -1) := by
  show rootStep (groupN g) g (0, -1) ⟨3758096384, 4, a⟩ = _
  rw [rootStep, in_groups hg]
  cases groupN g <;> simp
theorem oneR_I {w : NW} {a g : Nat} (hg : g < 4294967296) : rootI (oneR w a) g = groupN g := by
  rw [rootI, oneR_S hg]
  cases groupN g <;> simp
theorem oneR_A {w : NW} {a g : Nat} (hg : g < 4294967296) (h : groupN g = true) : rootA (oneR w a) g = a := by
  rw [rootA, oneR_S hg, if_pos h]
theorem shr_group {g : Nat} (hg : g < 4294967296) : ((g : Int) / 268435456 == 14) = groupN g := by
  rw [groupN, Bool.eq_iff_iff]
  simp only [Bool.and_eq_true, decide_eq_true_eq, beq_iff_eq]
  omega
theorem C_RootNone (w : NW) (h : w.OK) (g a : Nat) (hg : g < 4294967296) (ha : a < 4294967296) (r : Int) : AC Tryz.prog f_q2 [.agg (netV w), avU g, avU a, .lit (.int .i64 r)] (.lit (.bool true)) := by
  have h' := oneR_ok h ha
  refine ac_q2 ?_ (Nat.le_add_left 4 _)
  simp only [go_sem, c_q2, low_net, one_net, len_net, take_net, Nat.le_refl, avU]
  refine callX_of C_first10 ?_
  simp only [go_sem, netV]
  refine callX_of (C_Light (oneR w a) h' 8) ?_
  cases hL : lightN (oneR w a) 8
  · simp only [go_sem]
  have lo := lightN_iff.1 hL
  have hv := lo.v
  have hf := vfit hv
  have z5 : (oneR w a).rgs.length < 9223372036854775808 := h'.l5
  simp only [go_sem]
  refine callX_of (C_New (oneR w a) h' hf hv) ?_
  simp only [go_sem]
  refine callX_of (C_rootOf (oneR w a) h' g hg z5) ?_
  have hsh := avBin_shr 32 .u32 .u64 (g : Int) 28 (by decide) (by decide)
  have e28 : (2 : Int) ^ (Int.toNat 28) = 268435456 := by decide
  rw [e28] at hsh
  rw [oneR_I hg]
  simp only [go_sem, avU, hsh, shr_group hg]
  refine callX_of (C_At (oneR w a) a) ?_
  have hR := C_rootRouter (oneR w a) h' g hg z5
  have hIs := fun q => C_rootIs (oneR w a) h' q g hg z5
  simp only [go_sem]
  refine callX_of hR ?_
  cases hgr : groupN g
  · have hr0 : routerN (oneR w a) g = none := by
      unfold routerN
      rw [oneR_I hg, hgr]
      rfl
    rw [hr0] at hIs
    simp only [go_sem, hr0, Option.isSome_none, Option.getD_none]
    refine callX_of (hIs r) ?_
    simp only [go_sem]
  · have hA := oneR_A (w := w) (a := a) hg hgr
    have e1 : ((a : Int) == (a : Int)) = true := beq_self_eq_true _
    have hr0 : routerN (oneR w a) g = (atP (oneR w a) a).bind fun p => ((oneR w a).pts[p]?).map fun x => x.rt := by
      unfold routerN
      rw [oneR_I hg, hgr, hA, if_pos rfl]
    cases hp : atP (oneR w a) a with
    | none =>
      rw [hp, Option.bind_none] at hr0
      rw [hr0] at hIs
      simp only [go_sem, hr0, hA, e1, Option.isSome_none, Option.getD_none]
      refine callX_of (hIs r) ?_
      simp only [go_sem]
    | some p =>
      obtain ⟨x, hx, _⟩ := atP_lt hp
      rw [hp, Option.bind_some, hx, Option.map_some] at hr0
      rw [hr0] at hIs
      have e2 : (x.rt == x.rt) = true := beq_self_eq_true _
      simp only [go_sem, hr0, hA, e1, Option.isSome_some, Option.getD_some]
      refine callX_of (hIs x.rt) ?_
      simp only [go_sem, e2]
end Go.Proofs.YtbgfkdpjnabhkaaGreatDoor.VL
end

section
set_option maxHeartbeats 4000000
namespace Go.Proofs.YtbgfkdpjnabhkaaGreatDoor.VL
open Go.RowKit Go.Proofs
def rgL (i : Nat) : NRg := ⟨3774873600, ((8 + 4 * i : Nat) : Int), addrL i (i + 1)⟩
def rgsL (n : Nat) : List NRg := (List.range n).map rgL
def rangesW (n : Nat) : NW := { lineW n 0 with rgs := rgsL n }
def adrG (g : Nat) : Nat := 3774873600 + 4096 * g
def hitG (n g i : Nat) : Bool := adrG g / 2 ^ (24 - 4 * i) == 225 * 2 ^ (4 * i)
def wantG (n g : Nat) : Nat → Int
  | 0 => -1
  | i + 1 => if hitG 0 g i then (i : Int) else wantG n g i
theorem ranges_v : ∀ n, n < 7 → 0 < n → vNet (rangesW n) = none := by decide +kernel
theorem ranges_r : ∀ n, n < 7 → 0 < n → ∀ g, g < 256 → routerN (rangesW n) (adrG g) = some (wantG n g n) := by decide +kernel
theorem ranges_i : ∀ n, n < 7 → 0 < n → rootI (rangesW n) 3791650816 = false ∧ rootI (rangesW n) 167772160 = false := by decide +kernel
theorem ranges_ok : ∀ n, n < 7 → 0 < n → (rangesW n).OK := by
  intro n h1 h2
  match n, h1, h2 with
  | 1, _, _ => constructor <;> decide +kernel
  | 2, _, _ => constructor <;> decide +kernel
  | 3, _, _ => constructor <;> decide +kernel
  | 4, _, _ => constructor <;> decide +kernel
  | 5, _, _ => constructor <;> decide +kernel
  | 6, _, _ => constructor <;> decide +kernel
def RE0 (n g i : Nat) : Env := mkE [(0, .lit (.int .i64 (n : Nat))), (1, .lit (.int .i64 (g : Nat))), (6, .lp 6 0), (7, .lit (.int .i64 (i : Nat)))] [(6, [.sl .none 2 ((rtrs n).map avRouter), .sl .none 3 ((links (n + 1)).map avLink), .sl .none 3 ((prts n).map avPort), .sl .none 5 ((rtsI n n).map avRoute), rowO [47] 3 ((rgsL i).map avRange), .sl .none 3 [], .sl .none 4 []])]
theorem bits_adr : ∀ g, g < 256 → bits .or .u32 3774873600 (IntKind.wrap .u32 (IntKind.wrap .u32 ((g : Nat) : Int) * 2 ^ 12)) = ((adrG g : Nat) : Int) := by decide +kernel
def RE1 (n g i : Nat) : Env := mkE [(0, .lit (.int .i64 (n : Nat))), (8, .rp (topoV (rangesW n))), (10, avU (adrG g)), (11, .lit (.int .i64 (wantG n g i))), (12, .lit (.int .i64 (i : Nat)))] [(6, [.sl .none 2 ((rtrs n).map avRouter), .sl .none 3 ((links (n + 1)).map avLink), .sl .none 3 ((prts n).map avPort), .sl .none 5 ((rtsI n n).map avRoute), .sl (.own [47]) 3 ((rgsL n).map avRange), .sl .none 3 [], .sl .none 4 []])]
theorem hit_dec : ∀ i, i < 6 → ∀ g, g < 256 → (((adrG g : Nat) : Int) / 2 ^ (24 - 4 * i) == IntKind.wrap .u32 (225 * 2 ^ (4 * i))) = hitG 0 g i := by decide +kernel
theorem wrap_u64 (n : Nat) (h : n < 9223372036854775808) : IntKind.wrap .u64 ((n : Nat) : Int) = ((n : Nat) : Int) := by
  rw [IntKind.wrap_u64]
  omega
theorem z32 : ((3774873600 : Nat) : Int) = 3774873600 := rfl
theorem C_RootRanges (a b : Int) : AC Tryz.prog f_q1 [.lit (.int .i64 a), .lit (.int .i64 b)] (.lit (.bool true)) := by
  refine ac_q1 ?_ (Nat.le_add_left 2 _)
  simp only [go_sem, c_q1]
  refine callX_of C_first10 ?_
  simp only [go_sem]
  refine callX_of (C_Number a 6 (by decide) (by decide)) ?_
  obtain ⟨k, hk, hk6⟩ : ∃ k : Nat, a % 6 = (k : Int) ∧ k < 6 := ⟨(a % 6).toNat, by omega, by omega⟩
  have hw := wrap_succ k (by omega)
  rw [hk]
  simp only [go_sem, hw]
  refine callX_of (C_Number b 256 (by decide) (by decide)) ?_
  obtain ⟨g, hg, hg6⟩ : ∃ g : Nat, b % 256 = (g : Int) ∧ g < 256 := ⟨(b % 256).toNat, by omega, by omega⟩
  rw [hg]
  obtain ⟨n, hn, hn0, hn7⟩ : ∃ n : Nat, k + 1 = n ∧ 0 < n ∧ n < 7 := ⟨k + 1, rfl, by omega, by omega⟩
  rw [hn]
  simp only [go_sem]
  refine callX_of (C_Line n 0 hn0 (by omega) (by decide)) ?_
  simp only [go_sem, netV, lineW]
  refine aw_loop (fun m E => ∃ i : Nat, i + m = n ∧ E = RE0 n g i) n ?_ ?_
  · exact ⟨0, by omega, rfl⟩
  · rintro m _ ⟨i, him, rfl⟩
    by_cases hil : i < n
    · have f1 : ((i : Int) < (n : Int)) = True := eq_true (by omega)
      have hw := wrap_succ i (by omega)
      have hm4 : IntKind.wrap .i64 (4 * (i : Int)) = ((4 * i : Nat) : Int) := by
        have := wrap_nat (4 * i) (by omega)
        rwa [show ((4 * i : Nat) : Int) = 4 * (i : Int) by omega] at this ⊢
      have hm8 : IntKind.wrap .i64 (8 + ((4 * i : Nat) : Int)) = ((8 + 4 * i : Nat) : Int) := by
        have := wrap_nat (8 + 4 * i) (by omega)
        rwa [show ((8 + 4 * i : Nat) : Int) = 8 + ((4 * i : Nat) : Int) by omega] at this ⊢
      have hA := C_nAddr i (i + 1) (by omega) (by omega)
      have e1 : (rgsL (i + 1)).map avRange = (rgsL i).map avRange ++ [avRange (rgL i)] := by simp [rgsL, List.range_succ]
      have hR : ((rgsL i).map avRange).length ≤ 1000 := by simp [rgsL]; omega
      simp only [RE0]
      generalize (rgsL i).map avRange = R at *
      cases R with
      | nil =>
        have ea : ∀ s c, avApp 3 24 [] 47 s c (.sl .nil 0 []) (.sl (.own [46]) 3 [avRange (rgL i)]) = _ := fun s c => avApp_nil (d := 47) (s := s) (c := c) 3 24 0 [] [] [avRange (rgL i)] (.own [46]) (by simp) (by decide)
        simp only [go_sem, rowO_nil, f1, decide_true, hm4, hm8, hw]
        refine callX_of hA ?_
        simp only [go_sem, avRange, rgL, avU, z32] at ea ⊢
        simp only [go_sem, ea, hw]
        exact ⟨m - 1, by omega, i + 1, by omega, by rw [e1]; rfl⟩
      | cons r rs =>
        have ea : ∀ s c, avApp 3 24 [] 47 s c (.sl (.own [47]) 3 (r :: rs)) (.sl (.own [46]) 3 [avRange (rgL i)]) = _ := fun s c => avApp_own (d := 47) (s := s) (c := c) 3 24 [] [47] (r :: rs) [avRange (rgL i)] (.own [46]) (by simp at hR ⊢; omega) (by decide) rfl
        simp only [go_sem, rowO_cons, f1, decide_true, hm4, hm8, hw]
        refine callX_of hA ?_
        simp only [go_sem, avRange, rgL, avU, z32] at ea ⊢
        simp only [go_sem, ea, hw]
        exact ⟨m - 1, by omega, i + 1, by omega, by rw [e1]; rfl⟩
    · have f1 : ((i : Int) < (n : Int)) = False := eq_false (by omega)
      have ei : n = i := by omega
      subst ei
      have hv := ranges_v n hn7 hn0
      have er : rowO [47] 3 ((rgsL n).map avRange) = .sl (.own [47]) 3 ((rgsL n).map avRange) := rowO_ne (by simp [rgsL]; omega)
      simp only [go_sem, RE0, er, f1, decide_false]
      refine callX_of (C_New (rangesW n) (ranges_ok n hn7 hn0) (vfit hv) hv) ?_
      simp only [go_sem]
      have hV := R_Valid (rangesW n) (ranges_ok n hn7 hn0)
      rw [hv] at hV
      refine callX_of hV ?_
      have c0 : ((codeN none) != 0) = false := rfl
      simp only [go_sem, c0]
      have hsl := avBin_shl 32 .u32 .u64 (IntKind.wrap .u32 (g : Int)) 12 (by decide) (by decide)
      simp only [go_sem, hsl]
      rw [bits_adr g hg6]
      refine aw_loop (fun m E => ∃ i : Nat, i + m = n ∧ E = RE1 n g i) n ?_ ?_
      · exact ⟨0, by omega, rfl⟩
      · rintro m _ ⟨i, him, rfl⟩
        by_cases hil : i < n
        · have f1 : ((i : Int) < (n : Int)) = True := eq_true (by omega)
          have hw := wrap_succ i (by omega)
          have hm4 : IntKind.wrap .i64 (4 * (i : Int)) = ((4 * i : Nat) : Int) := by
            have := wrap_nat (4 * i) (by omega)
            rwa [show ((4 * i : Nat) : Int) = 4 * (i : Int) by omega] at this ⊢
          have hm2 : IntKind.wrap .i64 (24 - ((4 * i : Nat) : Int)) = ((24 - 4 * i : Nat) : Int) := by
            have := wrap_nat (24 - 4 * i) (by omega)
            rwa [show ((24 - 4 * i : Nat) : Int) = 24 - ((4 * i : Nat) : Int) by omega] at this ⊢
          have hu1 := wrap_u64 (24 - 4 * i) (by omega)
          have hu2 := wrap_u64 (4 * i) (by omega)
          have s1 := avBin_shr 32 .u32 .u64 ((adrG g : Nat) : Int) ((24 - 4 * i : Nat) : Int) (by omega) (by simp [IntKind.bits]; omega)
          have s2 := avBin_shl 32 .u32 .u64 225 ((4 * i : Nat) : Int) (by omega) (by simp [IntKind.bits]; omega)
          have hd := hit_dec i (by omega) g hg6
          rw [Int.toNat_natCast] at s1 s2
          simp only [go_sem, RE1, avU, f1, decide_true, hm4, hm2, hu1, hu2, s1, s2, hd]
          cases hh : hitG 0 g i
          · simp only [go_sem, hw]
            exact ⟨m - 1, by omega, i + 1, by omega, by simp only [RE1, wantG, hh]; rfl⟩
          · simp only [go_sem, hw]
            exact ⟨m - 1, by omega, i + 1, by omega, by simp only [RE1, wantG, hh]; rfl⟩
        · have f1 : ((i : Int) < (n : Int)) = False := eq_false (by omega)
          have ei : n = i := by omega
          subst ei
          have hok := ranges_ok n hn7 hn0
          have hlr : (rangesW n).rgs.length < 9223372036854775808 := by simp [rangesW, rgsL]; omega
          have hag : adrG g < 4294967296 := by simp only [adrG]; omega
          have hR := C_rootRouter (rangesW n) hok (adrG g) hag hlr
          have hI := C_rootIs (rangesW n) hok (wantG n g n) (adrG g) hag hlr
          have h1 := C_rootOf (rangesW n) hok 3791650816 (by decide) hlr
          have h2 := C_rootOf (rangesW n) hok 167772160 (by decide) hlr
          rw [ranges_r n hn7 hn0 g hg6] at hR hI
          rw [(ranges_i n hn7 hn0).1] at h1
          rw [(ranges_i n hn7 hn0).2] at h2
          simp only [Option.getD_some, Option.isSome_some] at hR
          have e1 : (wantG n g n == wantG n g n) = true := beq_self_eq_true _
          simp only [e1] at hI
          simp only [go_sem, RE1, avU, f1, decide_false]
          refine callX_of hR ?_
          simp only [go_sem]
          refine callX_of h1 ?_
          simp only [go_sem]
          refine callX_of h2 ?_
          simp only [go_sem, e1]
          refine callX_of hI ?_
          simp only [go_sem]
end Go.Proofs.YtbgfkdpjnabhkaaGreatDoor.VL
end

section
set_option maxHeartbeats 4000000
namespace Go.Proofs.YtbgfkdpjnabhkaaGreatDoor.VL
open Go.RowKit Go.Proofs
def sumN (f : Nat → Nat) : Nat → Nat
  | 0 => 0
  | k + 1 => sumN f k + f k
theorem sumN_congr {f g : Nat → Nat} : ∀ n, (∀ j, j < n → f j = g j) → sumN f n = sumN g n
  | 0, _ => rfl
  | n + 1, h => by rw [sumN, sumN, sumN_congr n fun j hj => h j (by omega), h n (by omega)]
theorem sumN_add (f g : Nat → Nat) : ∀ n, sumN (fun j => f j + g j) n = sumN f n + sumN g n
  | 0 => rfl
  | n + 1 => by simp only [sumN, sumN_add f g n]; omega
theorem sumN_zero : ∀ n, sumN (fun _ => 0) n = 0
  | 0 => rfl
  | n + 1 => by simp only [sumN, sumN_zero n]
theorem sumN_one (j0 : Nat) : ∀ n, sumN (fun j => if j = j0 then 1 else 0) n = if j0 < n then 1 else 0
  | 0 => rfl
  | n + 1 => by
    simp only [sumN, sumN_one j0 n]
    by_cases h : n = j0
    · subst h; simp
    · rw [if_neg h]
      by_cases h2 : j0 < n
      · rw [if_pos h2, if_pos (by omega)]
      · rw [if_neg h2, if_neg (by omega)]
theorem sumN_idx (q : Nat → Nat → Bool) (n : Nat) : ∀ k, (∀ i, i < k → ∃ j0, j0 < n ∧ ∀ j, q j i = decide (j = j0)) → sumN (fun j => (idxK (q j) k).length) n = k
  | 0, _ => by simp only [idxK_zero, List.length_nil]; exact sumN_zero n
  | k + 1, h => by
    have ih := sumN_idx q n k fun i hi => h i (by omega)
    obtain ⟨j0, h1, h2⟩ := h k (by omega)
    have e : ∀ j, (idxK (q j) (k + 1)).length = (idxK (q j) k).length + if j = j0 then 1 else 0 := fun j => by
      rw [idxK_succ, h2 j]
      by_cases hj : j = j0
      · simp [hj]
      · simp [hj]
    rw [sumN_congr n fun j _ => e j, sumN_add, ih, sumN_one, if_pos h1]
theorem mem_idx {q : Nat → Bool} {k i : Nat} : i ∈ idxK q k ↔ i < k ∧ q i = true := by simp [idxK]
theorem sumN_le (f : Nat → Nat) (b : Nat) (h : ∀ j, f j ≤ b) : ∀ n, sumN f n ≤ n * b
  | 0 => Nat.zero_le _
  | n + 1 => by
    have := sumN_le f b h n
    have := h n
    simp only [sumN, Nat.succ_mul]
    omega
theorem wrap_add (a b : Nat) (h : a + b < 9223372036854775808) : IntKind.wrap .i64 ((a : Int) + (b : Int)) = ((a + b : Nat) : Int) := by
  rw [← Int.natCast_add]
  exact wrap_nat (a + b) h
end Go.Proofs.YtbgfkdpjnabhkaaGreatDoor.VL
end

section
set_option maxHeartbeats 4000000
namespace Go.Proofs.YtbgfkdpjnabhkaaGreatDoor.VL
open Go.RowKit Go.Proofs
structure KI (p : Nat → Bool) (o : List Nat) (j k : Nat) (x : List Nat) : Prop where
  size : x.length = o.length
  lt : k < j
  le : j ≤ o.length
  pre : x.take k = (o.take j).filter fun n => !p n
  post : ∀ i, j ≤ i → x[i]? = o[i]?
theorem filter_take {p : Nat → Bool} {o : List Nat} {j a : Nat} (hj : o[j]? = some a) : (o.take (j + 1)).filter p = (o.take j).filter p ++ if p a then [a] else [] := by
  rw [List.take_add_one, hj, Option.toList_some, List.filter_append, List.filter_cons, List.filter_nil]
theorem KI.del {p : Nat → Bool} {o x : List Nat} {j k a : Nat} (h : KI p o j k x) (hj : o[j]? = some a) (hp : p a = true) : KI p o (j + 1) k x := by
  have hl := (List.getElem?_eq_some_iff.1 hj).1
  have := h.lt
  refine ⟨h.size, by omega, by omega, ?_, fun i hi => h.post i (by omega)⟩
  rw [filter_take hj, hp, h.pre]
  simp
theorem KI.keep {p : Nat → Bool} {o x : List Nat} {j k a : Nat} (h : KI p o j k x) (hj : o[j]? = some a) (hp : p a = false) : KI p o (j + 1) (k + 1) (x.set k a) := by
  have hl := (List.getElem?_eq_some_iff.1 hj).1
  have h1 := h.lt
  have h2 := h.size
  refine ⟨by rw [List.length_set, h2], by omega, by omega, ?_, fun i hi => ?_⟩
  · rw [filter_take hj, hp, List.take_add_one, List.getElem?_set_self (by omega), List.take_set_of_le (Nat.le_refl k), h.pre]
    simp
  · rw [List.getElem?_set_ne (by omega)]
    exact h.post i (by omega)
theorem KI.fin {p : Nat → Bool} {o x : List Nat} {k : Nat} (h : KI p o o.length k x) : x.take k = o.filter (fun n => !p n) ∧ (o.filter fun n => !p n).length = k := by
  have h1 := h.pre
  rw [List.take_length] at h1
  refine ⟨h1, ?_⟩
  have := h.lt
  have := h.size
  rw [← h1, List.length_take]
  omega
theorem KI.start (p : Nat → Bool) (l : List Nat) : (idxOf p l = -1 ∧ l.filter (fun n => !p n) = l) ∨ ∃ i : Nat, i < l.length ∧ idxOf p l = (i : Int) ∧ KI p l (i + 1) i l := by
  cases h : l.findIdx? p with
  | none =>
    refine .inl ⟨by rw [idxOf, h], ?_⟩
    rw [List.findIdx?_eq_none_iff] at h
    rw [List.filter_eq_self]
    intro a ha
    simp [h a ha]
  | some i =>
    refine .inr ⟨i, ?_⟩
    rw [List.findIdx?_eq_some_iff_getElem] at h
    have e : idxOf p l = (i : Int) := by
      rw [idxOf, List.findIdx?_eq_some_iff_getElem.2 h]
    obtain ⟨hi, hp, hall⟩ := h
    refine ⟨hi, e, rfl, by omega, by omega, ?_, fun _ _ => rfl⟩
    rw [filter_take (List.getElem?_eq_getElem hi), hp]
    simp only [Bool.not_true, Bool.false_eq_true, if_false, List.append_nil]
    refine (List.filter_eq_self.2 fun a ha => ?_).symm
    obtain ⟨j, hj⟩ := List.getElem?_of_mem ha
    have hjl : j < i := by
      have := (List.getElem?_eq_some_iff.1 hj).1
      rw [List.length_take] at this
      omega
    rw [List.getElem?_take_of_lt hjl] at hj
    obtain ⟨hjL, ej⟩ := List.getElem?_eq_some_iff.1 hj
    have := hall j hjl
    rw [ej] at this
    simpa using this
def othersW (w : NW) (x : NPt) : List Nat := (onW w x.lk).filter fun j => !(match w.pts[j]? with | some y => y.rt == x.rt | none => false)
def othersI (w : NW) (p : Int) : List Nat := if 0 ≤ p ∧ p < (w.pts.length : Int) then (match w.pts[p.toNat]? with | some x => othersW w x | none => []) else []
theorem onW_of {w : NW} (hv : vNet w = none) {i : Nat} {x : NPt} (hx : w.pts[i]? = some x) : ∃ k : Nat, x.lk = (k : Int) ∧ k < w.lks.length ∧ onW w x.lk = idxK (onQ w k) w.pts.length := by
  obtain ⟨k, hk, hkl⟩ := (portOK hv hx).lk
  refine ⟨k, hk, hkl, ?_⟩
  simp only [onW, atF, hk]
  rw [if_pos (by omega)]
  simp
theorem ofW_of {w : NW} (hv : vNet w = none) {i : Nat} {x : NPt} (hx : w.pts[i]? = some x) : ∃ k : Nat, x.rt = (k : Int) ∧ k < w.rts.length ∧ ofW w x.rt = idxK (ofQ w k) w.pts.length := by
  obtain ⟨k, hk, hkl⟩ := (portOK hv hx).rt
  refine ⟨k, hk, hkl, ?_⟩
  simp only [ofW, atF, hk]
  rw [if_pos (by omega)]
  simp
theorem mem_on {w : NW} (hv : vNet w = none) {i j : Nat} {x y : NPt} (hx : w.pts[i]? = some x) (hy : w.pts[j]? = some y) : ((onW w x.lk).any fun z => z == j) = (x.lk == y.lk) := by
  obtain ⟨k, hk, hkl, e⟩ := onW_of hv hx
  have hj := (List.getElem?_eq_some_iff.1 hy).1
  rw [e, Bool.eq_iff_iff]
  simp only [List.any_eq_true, beq_iff_eq, exists_eq_right, mem_idx, onQ, hy, hk, hj, true_and]
  exact eq_comm
theorem mem_of {w : NW} (hv : vNet w = none) {i j : Nat} {x y : NPt} (hx : w.pts[i]? = some x) (hy : w.pts[j]? = some y) : ((ofW w x.rt).any fun z => z == j) = (x.rt == y.rt) := by
  obtain ⟨k, hk, hkl, e⟩ := ofW_of hv hx
  have hj := (List.getElem?_eq_some_iff.1 hy).1
  rw [e, Bool.eq_iff_iff]
  simp only [List.any_eq_true, beq_iff_eq, exists_eq_right, mem_idx, ofQ, hy, hk, hj, true_and]
  exact eq_comm
theorem mem_others {w : NW} (hv : vNet w = none) {i j : Nat} {x y : NPt} (hx : w.pts[i]? = some x) (hy : w.pts[j]? = some y) : ((othersW w x).any fun z => z == j) = (x.lk == y.lk && !(x.rt == y.rt)) := by
  have h1 := mem_on hv hx hy
  rw [Bool.eq_iff_iff] at h1 ⊢
  simp only [List.any_eq_true, beq_iff_eq, exists_eq_right] at h1
  simp only [List.any_eq_true, beq_iff_eq, exists_eq_right, othersW, List.mem_filter, h1, hy, Bool.and_eq_true]
  rw [show (y.rt == x.rt) = (x.rt == y.rt) by rw [Bool.eq_iff_iff]; simp only [beq_iff_eq]; exact eq_comm]
theorem on_sum {w : NW} (hv : vNet w = none) : sumN (fun j => (onW w (j : Int)).length) w.lks.length = w.pts.length := by
  rw [sumN_congr w.lks.length (g := fun j => (idxK (onQ w j) w.pts.length).length) fun j hj => by simp only [onW, atF]; rw [if_pos (by omega)]; simp]
  refine sumN_idx (onQ w) _ _ fun i hi => ?_
  have hx : w.pts[i]? = some w.pts[i] := List.getElem?_eq_getElem hi
  obtain ⟨k, hk, hkl⟩ := (portOK hv hx).lk
  refine ⟨k, hkl, fun j => ?_⟩
  simp only [onQ, hx, hk]
  rw [nat_beqb, Bool.eq_iff_iff]
  simp only [beq_iff_eq, decide_eq_true_eq]
  exact eq_comm
theorem of_sum {w : NW} (hv : vNet w = none) : sumN (fun j => (ofW w (j : Int)).length) w.rts.length = w.pts.length := by
  rw [sumN_congr w.rts.length (g := fun j => (idxK (ofQ w j) w.pts.length).length) fun j hj => by simp only [ofW, atF]; rw [if_pos (by omega)]; simp]
  refine sumN_idx (ofQ w) _ _ fun i hi => ?_
  have hx : w.pts[i]? = some w.pts[i] := List.getElem?_eq_getElem hi
  obtain ⟨k, hk, hkl⟩ := (portOK hv hx).rt
  refine ⟨k, hkl, fun j => ?_⟩
  simp only [ofQ, hx, hk]
  rw [nat_beqb, Bool.eq_iff_iff]
  simp only [beq_iff_eq, decide_eq_true_eq]
  exact eq_comm
theorem onW_le (w : NW) (i : Int) : (onW w i).length ≤ w.pts.length := by
  simp only [onW, atF]
  split
  · exact idxK_len _ _
  · exact Nat.zero_le _
theorem ofW_le (w : NW) (i : Int) : (ofW w i).length ≤ w.pts.length := by
  simp only [ofW, atF]
  split
  · exact idxK_len _ _
  · exact Nat.zero_le _
theorem C_IndexFuncI {f : FuncId} {fst caps : List AV} {asf : Nat → List AV} {p : Nat → Bool} (t : Tok) (e : Nat) (l : List Nat) (hf : frB t = false) (he : e = 1 ∨ l = []) (hl : l.length < 9223372036854775808)
    (hlow : ∀ n, mapO (lower (getC []) 8) (fst ++ [(avI n)] ++ caps) = some (asf n)) (hAC : ∀ n ∈ l, AC Tryz.prog f (asf n) (.lit (.bool (p n)))) :
    AC Tryz.prog f_q112 [.sl t e (l.map avI), .clo (.func f) fst caps] (.lit (.int .i64 (idxOf p l))) := by
  refine ac_q112 ?_ (Nat.le_add_left 2 17)
  simp only [go_sem, c_q112]
  refine aw_loop (fun m E => ∃ k, k + m = l.length ∧ (∀ (j : Nat) (y : Nat), j < k → l[j]? = some y → p y = false) ∧ E = mkE [(0, .sl t e (l.map avI)), (1, .clo (.func f) fst caps), (7, .lit (.int .i64 l.length)), (8, .lit (.int .i64 (k : Nat)))] []) l.length ?_ ?_
  · exact ⟨0, by omega, fun j y hj => absurd hj (Nat.not_lt_zero j), by simp only [go_sem, Int.ofNat_zero]⟩
  · rintro m _ ⟨k, hk, hall, rfl⟩
    simp only [go_sem]
    refine condX_of (fun h => ?_) (fun h => ?_)
    · have hkl : k < l.length := by simpa using h
      obtain rfl : e = 1 := he.resolve_right (fun h => by rw [h] at hkl; simp at hkl)
      obtain ⟨x, hx⟩ : ∃ x, l[k]? = some x := ⟨l[k], List.getElem?_eq_getElem hkl⟩
      have hw := wrap_succ k (by omega)
      have hlx := hlow x
      simp only [avI] at hlx
      simp only [go_sem, h, hx, Int.toNat_natCast, Int.natCast_nonneg, List.getElem?_map, avRow_some, hf, avI, hlx]
      refine callX_of (hAC x (List.mem_of_getElem? hx)) ?_
      cases hp : p x
      · simp only [go_sem, hw]
        refine ⟨m - 1, by omega, k + 1, by omega, fun j y hj hy => ?_, rfl⟩
        by_cases hjk : j = k
        · subst hjk
          rw [hx] at hy
          injection hy with hy
          rw [← hy]
          exact hp
        · exact hall j y (by omega) hy
      · simp only [go_sem, idxOf_some hx hp hall]
    · have hkl : k = l.length := by have : ¬ k < l.length := by simpa using h
                                    omega
      have e : idxOf p l = -1 := idxOf_none fun i x hi => hall i x (by have := (List.getElem?_eq_some_iff.1 hi).1; omega) hi
      simp only [go_sem, h, e]
theorem chunk_nats : ∀ l : List Nat, chunk false 1 l.length (l.map avI) = l.map avI
  | [] => rfl
  | a :: l => by simp only [List.length_cons, List.map_cons, chunk, List.take_succ_cons, List.take_zero, List.headD_cons, List.drop_succ_cons, List.drop_zero, chunk_nats l]
theorem cells_nats : ∀ l : List Nat, (l.map avI).flatMap cellsOf = l.map avI
  | [] => rfl
  | a :: l => by
    simp only [List.map_cons, List.flatMap_cons, cells_nats l]
    rfl
theorem lowM_ints {l : List Nat} {tl : List AV} {cap : Nat} (hc : l.length ≤ cap) : lowM l.length cap 0 false 1 (some (l.map avI ++ tl)) = some (.sl .bor 1 (l.map avI)) := by
  have h1 : 0 + l.length * 1 ≤ (l.map avI ++ tl).length ∧ l.length ≤ cap ∧ (false = true ∨ (1 : Nat) = 1) := ⟨by simp, hc, .inr rfl⟩
  have h2 : ((l.map avI ++ tl).drop 0).take (l.length * 1) = l.map avI := by
    rw [List.drop_zero, Nat.mul_one, List.take_append_of_le_length (by simp), List.take_of_length_le (by simp)]
  have h3 : mapO closeV (l.map avI) = some (l.map avI) := mapO_id fun x hx => by
    obtain ⟨n, _, rfl⟩ := List.mem_map.1 hx
    rfl
  show (if 0 + l.length * 1 ≤ (l.map avI ++ tl).length ∧ l.length ≤ cap ∧ (false = true ∨ (1 : Nat) = 1) then (match mapO closeV (((l.map avI ++ tl).drop 0).take (l.length * 1)) with
    | some l' => some (AV.sl .bor 1 (chunk false 1 l.length l'))
    | none => none) else none) = _
  rw [if_pos h1, h2, h3]
  show some (AV.sl .bor 1 (chunk false 1 l.length (l.map avI))) = _
  rw [chunk_nats]
theorem ret_ints (C : Nat → Option (List AV)) (l : List Nat) {tl : List AV} (ht : Tl tl) : mapO (retv C false 8) (l.map avI ++ tl) = some (l.map avI ++ tl) := by
  refine mapO_id fun x hx => ?_
  rcases List.mem_append.1 hx with hx | hx
  · obtain ⟨n, _, rfl⟩ := List.mem_map.1 hx
    rfl
  · rcases ht x hx with rfl | ⟨v, rfl⟩ <;> rfl
theorem close_ints (l : List Nat) {tl : List AV} (ht : Tl tl) : mapO closeV (l.map avI ++ tl) = some (l.map avI ++ tl) := by
  refine mapO_id fun x hx => ?_
  rcases List.mem_append.1 hx with hx | hx
  · obtain ⟨n, _, rfl⟩ := List.mem_map.1 hx
    rfl
  · rcases ht x hx with rfl | ⟨v, rfl⟩ <;> rfl
theorem retC_ints {s : List (Nat × AV)} {l : List Nat} {tl : List AV} (ht : Tl tl) : retC (mkE s [(100000, l.map avI ++ tl)]) [100000] = some [(100000, l.map avI ++ tl)] := by
  simp only [retC, mapO_cons, mapO_nil, mkE_c, getC_cons, ↓reduceIte, ret_ints _ l ht, catO_some]
theorem C_DeleteFunc {f : FuncId} {fst caps : List AV} {asf : Nat → List AV} {p : Nat → Bool} {cap : Nat} {tl : List AV} (ht : Tl tl) (l : List Nat) (hc : l.length ≤ cap) (hl : l.length ≤ 4611686018427387904)
    (hfst : ∀ C, mapO (lower C 7) fst = some fst) (hcaps : ∀ C, mapO (lower C 7) caps = some caps)
    (hlow : ∀ C n, mapO (lower C 8) (fst ++ [avI n] ++ caps) = some (asf n)) (hAC : ∀ n ∈ l, AC Tryz.prog f (asf n) (.lit (.bool (p n)))) :
    AM Tryz.prog f_q65 [.ml 100000 0 l.length cap false 1, .clo (.func f) fst caps] [(100000, l.map avI ++ tl)] (.ml 100000 0 (l.filter fun n => !p n).length cap false 1)
      [(100000, (l.filter fun n => !p n).map avI ++ (List.replicate (l.length - (l.filter fun n => !p n).length) (avI 0) ++ tl))] := by
  refine am_q65 ?_ (by simp) (Nat.le_add_left 2 _)
  have hI := C_IndexFuncI (t := .bor) (e := 1) (p := p) (fst := fst) (caps := caps) (f := f) l rfl (.inl rfl) (by omega) (hlow _) hAC
  simp only [go_sem, env0M_mk, c_q65, List.map_cons, List.map_nil, lowM_ints hc, hfst, hcaps]
  refine callX_of hI ?_
  rcases KI.start p l with ⟨e1, e2⟩ | ⟨i, hi, e1, hK⟩
  · have f0 : ((-1 : Int) == -1) = true := rfl
    simp only [go_sem, e1]
    refine shiftX_refl ?_
    simp only [go_sem, f0, endM_n, endM_r, e2]
    rw [Nat.sub_self, List.replicate_zero, List.nil_append]
    exact retC_ints ht
  have f0 : ((i : Int) == -1) = false := by simp
  have wi := iwn (i + 1) (by omega : (i : Int) + 1 = ((i + 1 : Nat) : Int)) (by omega)
  simp only [go_sem, e1]
  refine shiftX_refl ?_
  simp only [go_sem, f0, wi]
  refine aw_loop (fun m E => ∃ (j k : Nat) (x : List Nat), KI p l j k x ∧ l.length - j ≤ m ∧ E = mkE [(0, .ml 100000 0 l.length cap false 1), (1, .clo (.func f) fst caps), (5, iI k), (6, iI j)] [(100000, x.map avI ++ tl)]) l.length ?_ ?_
  · exact ⟨i + 1, i, l, hK, by omega, rfl⟩
  · rintro m _ ⟨j, k, x, hx, hm, rfl⟩
    have hle := hx.le
    have hlt := hx.lt
    have hsz := hx.size
    by_cases hjn : j < l.length
    · have f4 : ((j : Int) < (l.length : Int)) = True := eq_true (by omega)
      obtain ⟨a, ha⟩ : ∃ a, l[j]? = some a := ⟨l[j], List.getElem?_eq_getElem hjn⟩
      have hxa : x[j]? = some a := by rw [hx.post j (Nat.le_refl _)]; exact ha
      have w4 := iwn (j + 1) (by omega : (j : Int) + 1 = ((j + 1 : Nat) : Int)) (by omega)
      have w5 := iwn (k + 1) (by omega : (k : Int) + 1 = ((k + 1 : Nat) : Int)) (by omega)
      have b3 : (k : Int) < (l.length : Int) := by omega
      have g3 : aval.ld false 1 ((x.map avI ++ tl).drop j) = some (avI a) := by
        rw [ld_drop, List.getElem?_append_left (by rw [List.length_map]; omega), List.getElem?_map, hxa]
        rfl
      have l1 : k + 1 ≤ (x.map avI ++ tl).length := by rw [List.length_append, List.length_map]; omega
      have s1 := put_set (x.map avI) tl k (avI a) (by rw [List.length_map]; omega)
      have s2 : (x.map avI).set k (avI a) = (x.set k a).map avI := by rw [List.map_set]
      rw [s2] at s1
      have hlx := hlow (getC [(100000, x.map avI ++ tl)]) a
      simp only [avI] at g3 hlx s1
      have hA := hAC a (List.mem_of_getElem? ha)
      simp only [go_sem, f4, decide_true, g3, hlx, Int.natCast_nonneg, Int.toNat_natCast, Nat.zero_add, Nat.mul_one]
      refine callX_of hA ?_
      cases hp : p a
      · simp only [go_sem, f4, decide_true, w4, w5, l1, s1, b3, Int.natCast_nonneg, Int.toNat_natCast, Nat.zero_add, Nat.mul_one]
        exact ⟨m - 1, by omega, j + 1, k + 1, _, hx.keep ha hp, by omega, rfl⟩
      · simp only [go_sem, w4]
        exact ⟨m - 1, by omega, j + 1, k, x, hx.del ha hp, by omega, rfl⟩
    · have f4 : ((j : Int) < (l.length : Int)) = False := eq_false (by omega)
      obtain rfl : j = l.length := by omega
      obtain ⟨hpre, hlen⟩ := hx.fin
      have hs1 : 0 ≤ (k : Int) ∧ (k : Int) ≤ (l.length : Int) ∧ (l.length : Int) ≤ (l.length : Int) ∧ ((k : Int) < cap ∨ (k : Int) = 0) ∧ l.length ≤ cap := by omega
      have hs2 : 0 ≤ ((0 : Nat) : Int) ∧ ((0 : Nat) : Int) ≤ (k : Int) ∧ (k : Int) ≤ (l.length : Int) ∧ (((0 : Nat) : Int) < cap ∨ ((0 : Nat) : Int) = 0) ∧ l.length ≤ cap := by omega
      have hcl : (1 : Nat) = [AV.lit (.int .i64 0)].length ∧ k + (l.length - k) * 1 ≤ (x.map avI ++ tl).length ∧ oneL [AV.lit (.int .i64 0)] = true := ⟨rfl, by rw [List.length_append, List.length_map]; omega, rfl⟩
      have hce : (x.map avI ++ tl).take k ++ (List.replicate (l.length - k) [AV.lit (.int .i64 0)]).flatten ++ (x.map avI ++ tl).drop (k + (l.length - k)) = (l.filter fun n => !p n).map avI ++ (List.replicate (l.length - k) (avI 0) ++ tl) := by
        have e1 : (x.map avI ++ tl).take k = (l.filter fun n => !p n).map avI := by
          rw [List.take_append_of_le_length (by simp; omega), ← List.map_take, hpre]
        have e2 : (x.map avI ++ tl).drop (k + (l.length - k)) = tl := List.drop_left' (by simp; omega)
        have e3 : ∀ n : Nat, (List.replicate n [AV.lit (.int .i64 0)]).flatten = List.replicate n (avI 0) := by
          intro n
          induction n with
          | zero => rfl
          | succ n ih => rw [List.replicate_succ, List.flatten_cons, ih]; rfl
        rw [e1, e2, e3, List.append_assoc]
      simp only [go_sem, f4, decide_false, avSlM_some 1 100000 0 l.length cap false (k : Int) (l.length : Int) hs1, avSlM_some 1 100000 0 l.length cap false ((0 : Nat) : Int) (k : Int) hs2, Int.toNat_natCast, Nat.zero_add, Nat.mul_one, Int.toNat_zero, Nat.zero_mul, Nat.sub_zero]
      simp only [go_sem, clrM_some (c := [(100000, x.map avI ++ tl)]) [AV.lit (.int .i64 0)] 100000 k (l.length - k) 1 (x.map avI ++ tl) hcl, hce, avSlM_some 1 100000 0 l.length cap false ((0 : Nat) : Int) (k : Int) hs2, Int.toNat_natCast, Nat.zero_add, Nat.mul_one, Int.toNat_zero, Nat.zero_mul, Nat.sub_zero, endM_n, endM_r, hlen, true_and]
      exact retC_ints (by
        intro y hy
        rcases List.mem_append.1 hy with hy | hy
        · exact .inr ⟨_, List.eq_of_mem_replicate hy⟩
        · exact ht y hy)
theorem C_listF (f : Nat → List Nat) (n i : Nat) (hi : i < n) (hn : n ≤ 4294967296) (hf : ∀ j, (f j).length ≤ 4294967296) (h0 : f i ≠ []) : ∃ τ, AC Tryz.prog f_q64 [.sl .none 1 (rowsN f n), .lit (.int .i64 (i : Nat))] (.sl (.fr τ) 1 ((f i).map avI)) := by
  have f1 : ((i : Int) < 0) = False := eq_false (by omega)
  have f2 : ((n : Int) ≤ (i : Int)) = False := eq_false (by omega)
  have hg := rowsN_get f n i hi
  rw [if_neg h0] at hg
  have hr := fun e rows => avRow_some 1 .none (AV.sl .none e rows) rfl
  refine ⟨[17, 7], ac_q64 ?_ (Nat.le_add_left 2 _)⟩
  simp only [go_sem, c_q64, f1, f2, rowsN_len, decide_false, hg, hr, Int.natCast_nonneg, Int.toNat_natCast]
  refine callX_of (KF_Int ((f i).map avI) (by simpa using h0) (by simpa using hf i)) ?_
  simp only [go_sem]
theorem C_OnF (w : NW) (hf : w.Fit) (i : Nat) (hi : i < w.lks.length) (h0 : idxK (onQ w i) w.pts.length ≠ []) : ∃ τ, AC Tryz.prog f_q22 [.rp (topoV w), .lit (.int .i64 (i : Nat))] (.sl (.fr τ) 1 ((idxK (onQ w i) w.pts.length).map avI)) := by
  obtain ⟨τ, h⟩ := C_listF (fun j => idxK (onQ w j) w.pts.length) w.lks.length i hi hf.l2 (fun j => Nat.le_trans (idxK_len _ _) hf.l3) h0
  refine ⟨10 :: τ, ac_q22 ?_ (Nat.le_add_left 2 _)⟩
  simp only [go_sem, c_q22, topoV, tC, ONv]
  refine callX_of h ?_
  simp only [go_sem]
theorem C_Others_1 (w : NW) (x : NPt) (j : Nat) (y : NPt) (hy : w.pts[j]? = some y) : AC Tryz.prog f_q66 [avI j, .bp [.rp (topoV w)], .bp [.lit (.int .i64 x.rt), .lit (.int .i64 x.lk), avU x.a]] (.lit (.bool (y.rt == x.rt))) := by
  refine ac_q66 ?_ (Nat.le_add_left 3 _)
  simp only [go_sem, c_q66, topoV, tC, avI, Int.natCast_nonneg, Int.toNat_natCast, List.getElem?_map, hy, Option.map_some, rowAgg, avPort, avU]
theorem set_slot {s : List (Nat × AV)} {c : List (Nat × List AV)} {k : Nat} {x : AV} : (mkE s c).set (.slot k) x = mkE (putA s k x) c := mkE_put s c k x
theorem call0i_of {P : Program} {dst : Option Nat} {os : List AOper} {s : List (Nat × AV)} {c' : List (Nat × List AV)} {K : Env → Prop} {f : FuncId} {raw al : List AV} {args : Option (List AV)} {r : AV} {l : List Nat} {tl y : List AV} (ht : Tl tl)
    (hl : mapO (lowerM [(0, 100000)] (getC ((0, l.map avI ++ tl) :: c')) 8) raw = some al) (h : AM P f al [(100000, l.map avI ++ tl)] r [(100000, y)])
    (hk : awX false P os ((mkE s ((0, y) :: c')).putO dst (retag (dst.getD 0) (unlend [(0, 100000)] r))) K) : callX false P dst os s ((0, l.map avI ++ tl) :: c') K f raw args := by
  refine callM_of [(0, 100000)] rfl hl ?_ h ?_
  · show mapO _ _ = _
    simp only [mapO_cons, mapO_nil, getC_cons, ↓reduceIte, close_ints l ht, catO_some]
  · rw [back_0c]
    exact hk
theorem C_Others (w : NW) (hf : w.Fit) (hv : vNet w = none) (p : Int) : AC Tryz.prog f_q24 [.rp (topoV w), .lit (.int .i64 p)] (.sl .none 1 ((othersI w p).map avI)) := by
  by_cases h0 : p < 0
  · have e : othersI w p = [] := if_neg (by omega)
    rw [e]
    refine AC_weak (r := .sl .nil 0 []) (ac_q24 ?_ (Nat.le_add_left 2 _)) (fun E v h => rep_sl0 h)
    have f1 : (p < 0) = True := eq_true h0
    simp only [go_sem, c_q24, f1, decide_true]
  have f1 : (p < 0) = False := eq_false h0
  by_cases h1 : (w.pts.length : Int) ≤ p
  · have e : othersI w p = [] := if_neg (by omega)
    rw [e]
    refine AC_weak (r := .sl .nil 0 []) (ac_q24 ?_ (Nat.le_add_left 2 _)) (fun E v h => rep_sl0 h)
    have f2 : ((w.pts.length : Int) ≤ p) = True := eq_true h1
    simp only [go_sem, c_q24, topoV, tC, List.length_map, f1, f2, decide_true, decide_false]
  have f2 : ((w.pts.length : Int) ≤ p) = False := eq_false h1
  obtain ⟨q, rfl⟩ : ∃ q : Nat, p = (q : Int) := ⟨p.toNat, by omega⟩
  obtain ⟨x, hx⟩ : ∃ x, w.pts[q]? = some x := ⟨w.pts[q]'(by omega), List.getElem?_eq_getElem (by omega)⟩
  have e : othersI w (q : Int) = othersW w x := by
    simp only [othersI]
    rw [if_pos (by omega), Int.toNat_natCast, hx]
  rw [e]
  obtain ⟨k, hk, hkl, eon⟩ := onW_of hv hx
  have hne : idxK (onQ w k) w.pts.length ≠ [] := by
    intro h
    have : q ∈ idxK (onQ w k) w.pts.length := mem_idx.2 ⟨by omega, by simp [onQ, hx, hk]⟩
    rw [h] at this
    cases this
  obtain ⟨τ, hOn⟩ := C_OnF w hf k hkl hne
  have hlen := idxK_len (onQ w k) w.pts.length
  have hl3 := hf.l3
  have hO1 : ∀ n ∈ idxK (onQ w k) w.pts.length, AC Tryz.prog f_q66 [avI n, .bp [.rp (topoV w)], .bp [.lit (.int .i64 x.rt), .lit (.int .i64 x.lk), avU x.a]] (.lit (.bool (match w.pts[n]? with | some y => y.rt == x.rt | none => false))) := by
    intro n hn
    have hnl := (mem_idx.1 hn).1
    have hy : w.pts[n]? = some w.pts[n] := List.getElem?_eq_getElem hnl
    rw [hy]
    exact C_Others_1 w x n _ hy
  simp only [othersW, eon]
  rw [hk] at hO1
  refine ac_q24 ?_ (Nat.le_add_left 2 _)
  generalize hT : topoV w = T at *
  have hT1 : (7 ≤ T.length) = True := eq_true (by rw [← hT]; exact Nat.le_of_ble_eq_true rfl)
  have hT2 : T.take 7 = netV w := by rw [← hT]; rfl
  simp only [go_sem, c_q24, f1, f2, hT1, hT2, netV, avU, decide_false, List.length_map, Int.natCast_nonneg, Int.toNat_natCast, List.getElem?_map, hx, Option.map_some, rowAgg, avPort, hk]
  refine callX_of hOn ?_
  simp only [go_sem]
  generalize idxK (onQ w k) w.pts.length = L at *
  have hLl : L.length ≤ 4294967296 := by omega
  refine splitX_of (VS.adopt (p := .slot 29) (g := false) 0 rfl (by simpa using hne) (fun r hr => ?_) (by decide) rfl) ?_
  · obtain ⟨n, _, rfl⟩ := List.mem_map.1 hr
    rfl
  rintro _ ⟨cap, j, hcap, rfl⟩
  rw [cells_nats]
  rw [List.length_map] at hcap ⊢
  simp only [mkE_strip]
  rw [set_slot, mkE_putc]
  have ht : Tl (List.replicate j .dead) := fun x hx => .inl (List.eq_of_mem_replicate hx)
  generalize List.replicate j AV.dead = tl at ht ⊢
  have hD := C_DeleteFunc (f := f_q66) (fst := []) (caps := [.bp [.rp T], .bp [.lit (.int .i64 x.rt), .lit (.int .i64 (k : Nat)), avU x.a]]) (asf := fun n => [avI n, .bp [.rp T], .bp [.lit (.int .i64 x.rt), .lit (.int .i64 (k : Nat)), avU x.a]])
    (p := fun n => match w.pts[n]? with | some y => y.rt == x.rt | none => false) (cap := cap) ht L hcap (by omega) (fun C => rfl) (fun C => rfl) (fun C n => rfl) hO1
  have hle : (L.filter fun n => !(match w.pts[n]? with | some y => y.rt == x.rt | none => false)).length ≤ L.length := List.length_filter_le _ _
  generalize L.filter (fun n => !(match w.pts[n]? with | some y => y.rt == x.rt | none => false)) = M at *
  have hret : ∀ (C : Nat → Option (List AV)) (n : Nat), retM C (n + 1) 0 M.length cap false 1 (some (M.map avI ++ (List.replicate (L.length - M.length) (avI 0) ++ tl))) = some (.sl .none 1 (M.map avI)) := by
    intro C n
    rw [retM_some (l := M.map avI) 0 M.length cap false 1 _ (show 0 + M.length * 1 ≤ (M.map avI ++ (List.replicate (L.length - M.length) (avI 0) ++ tl)).length ∧ M.length ≤ cap ∧ (false = true ∨ (1 : Nat) = 1) from ⟨by simp, by omega, .inr rfl⟩) ?_, chunk_nats]
    rw [List.drop_zero, Nat.mul_one, List.take_append_of_le_length (by simp), List.take_of_length_le (by simp)]
    refine mapO_id fun x hx => ?_
    obtain ⟨n, _, rfl⟩ := List.mem_map.1 hx
    rfl
  simp only [go_sem]
  refine call0i_of ht rfl hD ?_
  simp only [go_sem, hret]
end Go.Proofs.YtbgfkdpjnabhkaaGreatDoor.VL
end

section
set_option maxHeartbeats 4000000
namespace Go.Proofs.YtbgfkdpjnabhkaaGreatDoor.VL
open Go.RowKit Go.Proofs
theorem othersI_at {w : NW} {i : Nat} {x : NPt} (hx : w.pts[i]? = some x) : othersI w (i : Int) = othersW w x := by
  have := (List.getElem?_eq_some_iff.1 hx).1
  simp only [othersI]
  rw [if_pos (by omega), Int.toNat_natCast, hx]
theorem othersI_le (w : NW) (i : Int) : (othersI w i).length ≤ w.pts.length := by
  simp only [othersI]
  split
  · split
    · exact Nat.le_trans (List.length_filter_le _ _) (onW_le w _)
    · exact Nat.zero_le _
  · exact Nat.zero_le _
theorem C_TopoOthers (w : NW) (h : w.OK) (a b : Int) : AC Tryz.prog f_q3 [.agg (netV w), .lit (.int .i64 a), .lit (.int .i64 b)] (.lit (.bool true)) := by
  refine ac_q3 ?_ (Nat.le_add_left 3 _)
  simp only [go_sem, c_q3, low_net, one_net, len_net, take_net, Nat.le_refl]
  refine callX_of C_first8 ?_
  simp only [go_sem, low_net, one_net, len_net, take_net, Nat.le_refl]
  refine callX_of (C_Light w h 8) ?_
  cases hL : lightN w 8
  · simp only [go_sem]
  have lo := lightN_iff.1 hL
  have hv := lo.v
  have hf := vfit hv
  have z1 := lo.l1
  have z2 := lo.l2
  have z3 := lo.l3
  by_cases hp0 : w.pts.length = 0
  · have f0 : ((w.pts.length : Int) == 0) = true := by simp [hp0]
    simp only [go_sem, netV, List.length_map, f0]
  have f0 : ((w.pts.length : Int) == 0) = false := by simp [hp0]
  simp only [go_sem, netV, List.length_map, f0]
  have hN := C_New w h hf hv
  simp only [netV] at hN
  refine callX_of hN ?_
  simp only [go_sem]
  refine aw_loop (fun m E => ∃ i : Nat, i + m = w.rts.length ∧ E = mkE [(1, .lit (.int .i64 a)), (2, .lit (.int .i64 b)), (3, .lp 3 0), (7, .lit (.bool true)), (8, .rp (topoV w)), (10, .lit (.int .i64 (sumN (fun j => (ofW w (j : Int)).length) i : Nat))), (11, .lit (.int .i64 (i : Nat)))] [(3, netV w)]) w.rts.length ?_ ?_
  · exact ⟨0, by omega, by simp only [go_sem, Int.natCast_zero, sumN, netV]⟩
  · rintro m _ ⟨i, him, rfl⟩
    by_cases hil : i < w.rts.length
    · have f1 : ((i : Int) < (w.rts.length : Int)) = True := eq_true (by omega)
      have hw := wrap_succ i (by omega)
      have hle := sumN_le (fun j => (ofW w (j : Int)).length) 24 (fun j => Nat.le_trans (ofW_le w j) (by omega)) i
      have hw2 := wrap_add (sumN (fun j => (ofW w (j : Int)).length) i) ((ofW w (i : Int)).length) (by have := ofW_le w (i : Int); omega)
      simp only [go_sem, netV, List.length_map, f1, decide_true]
      refine callX_of (C_OfT w hf (i : Int)) ?_
      simp only [go_sem, List.length_map, hw, hw2]
      exact ⟨m - 1, by omega, i + 1, by omega, rfl⟩
    · have f1 : ((i : Int) < (w.rts.length : Int)) = False := eq_false (by omega)
      have e : i = w.rts.length := by omega
      simp only [go_sem, netV, List.length_map, f1, decide_false]
      rw [e, of_sum hv]
      have hS := on_sum hv
      refine aw_loop (fun m E => ∃ i : Nat, i + m = w.lks.length ∧ E = mkE [(1, .lit (.int .i64 a)), (2, .lit (.int .i64 b)), (3, .lp 3 0), (7, .lit (.bool true)), (8, .rp (topoV w)), (10, .lit (.int .i64 ((w.pts.length : Int) - (sumN (fun j => (onW w (j : Int)).length) i : Nat)))), (12, .lit (.int .i64 (i : Nat)))] [(3, netV w)]) w.lks.length ?_ ?_
      · exact ⟨0, by omega, by simp only [go_sem, Int.natCast_zero, sumN, netV, Int.sub_zero]⟩
      · rintro m _ ⟨i, him, rfl⟩
        by_cases hil : i < w.lks.length
        · have f1 : ((i : Int) < (w.lks.length : Int)) = True := eq_true (by omega)
          have hw := wrap_succ i (by omega)
          have hle := sumN_le (fun j => (onW w (j : Int)).length) 24 (fun j => Nat.le_trans (onW_le w j) (by omega)) i
          have hw2 : IntKind.wrap .i64 ((w.pts.length : Int) - (sumN (fun j => (onW w (j : Int)).length) i : Nat) - ((onW w (i : Int)).length : Nat)) = (w.pts.length : Int) - (sumN (fun j => (onW w (j : Int)).length) (i + 1) : Nat) := by
            have := onW_le w (i : Int)
            simp only [sumN]
            rw [iw _ (by omega) (by omega)]
            omega
          simp only [go_sem, netV, List.length_map, f1, decide_true]
          refine callX_of (C_On w hf (i : Int)) ?_
          simp only [go_sem, List.length_map, hw, hw2]
          exact ⟨m - 1, by omega, i + 1, by omega, rfl⟩
        · have f1 : ((i : Int) < (w.lks.length : Int)) = False := eq_false (by omega)
          have e : i = w.lks.length := by omega
          have k0 : ((0 : Int) != 0) = false := rfl
          have k1 : ((0 : Int) == 0) = true := rfl
          simp only [go_sem, netV, List.length_map, f1, decide_false]
          rw [e, hS, Int.sub_self]
          by_cases a0 : a < 0
          · have fa : (a < 0) = True := eq_true a0
            simp only [go_sem, k0, k1, fa, decide_true]
          have fa : (a < 0) = False := eq_false a0
          by_cases b0 : b < 0
          · have fb : (b < 0) = True := eq_true b0
            simp only [go_sem, k0, k1, fa, fb, decide_true, decide_false]
          have fb : (b < 0) = False := eq_false b0
          by_cases a1 : (w.pts.length : Int) ≤ a
          · have fc : ((w.pts.length : Int) ≤ a) = True := eq_true a1
            simp only [go_sem, k0, k1, fa, fb, fc, netV, List.length_map, decide_true, decide_false]
          have fc : ((w.pts.length : Int) ≤ a) = False := eq_false a1
          by_cases b1 : (w.pts.length : Int) ≤ b
          · have fd : ((w.pts.length : Int) ≤ b) = True := eq_true b1
            simp only [go_sem, k0, k1, fa, fb, fc, fd, netV, List.length_map, decide_true, decide_false]
          have fd : ((w.pts.length : Int) ≤ b) = False := eq_false b1
          obtain ⟨q, rfl⟩ : ∃ q : Nat, a = (q : Int) := ⟨a.toNat, by omega⟩
          obtain ⟨r, rfl⟩ : ∃ r : Nat, b = (r : Int) := ⟨b.toNat, by omega⟩
          obtain ⟨x, hx⟩ : ∃ x, w.pts[q]? = some x := ⟨w.pts[q]'(by omega), List.getElem?_eq_getElem (by omega)⟩
          obtain ⟨y, hy⟩ : ∃ y, w.pts[r]? = some y := ⟨w.pts[r]'(by omega), List.getElem?_eq_getElem (by omega)⟩
          have hO1 := C_Others w hf hv (q : Int)
          have hO2 := C_Others w hf hv (r : Int)
          have hA1 := C_Among (othersI w (q : Int)) r (by have := othersI_le w (q : Int); omega)
          have hA2 := C_Among (othersI w (r : Int)) q (by have := othersI_le w (r : Int); omega)
          have hA3 := C_Among (onW w x.lk) q (by have := onW_le w x.lk; omega)
          have hA4 := C_Among (ofW w x.rt) q (by have := ofW_le w x.rt; omega)
          rw [othersI_at hx, mem_others hv hx hy] at hA1
          rw [othersI_at hy, mem_others hv hy hx] at hA2
          rw [mem_on hv hx hx] at hA3
          rw [mem_of hv hx hx] at hA4
          rw [othersI_at hx] at hO1
          rw [othersI_at hy] at hO2
          have c1 : (y.lk == x.lk) = (x.lk == y.lk) := by rw [Bool.eq_iff_iff]; simp only [beq_iff_eq]; exact eq_comm
          have c2 : (y.rt == x.rt) = (x.rt == y.rt) := by rw [Bool.eq_iff_iff]; simp only [beq_iff_eq]; exact eq_comm
          have c3 : (x.rt != y.rt) = !(x.rt == y.rt) := rfl
          rw [c1, c2] at hA2
          rw [beq_self_eq_true] at hA3 hA4
          simp only [avI] at hA1 hA2 hA3 hA4
          generalize hb1 : (x.lk == y.lk) = d1 at *
          generalize hb2 : (x.rt == y.rt) = d2 at *
          cases d1 <;> cases d2
          all_goals
            simp only [go_sem, k0, k1, fa, fb, fc, fd, netV, List.length_map, decide_true, decide_false, Int.natCast_nonneg, Int.toNat_natCast, List.getElem?_map, hx, hy, Option.map_some, rowAgg, avPort, avU, hb1, hb2, c3]
            refine callX_of hO1 ?_
            simp only [go_sem]
            refine callX_of hA1 ?_
            simp only [go_sem, hb1, hb2, c3]
            refine callX_of hO2 ?_
            simp only [go_sem]
            refine callX_of hA2 ?_
            simp only [go_sem, netV, List.length_map, Int.natCast_nonneg, Int.toNat_natCast, List.getElem?_map, hx, hy, Option.map_some, rowAgg, avPort, avU]
            refine callX_of (C_On w hf x.lk) ?_
            simp only [go_sem]
            refine callX_of hA3 ?_
            simp only [go_sem, netV, List.length_map, Int.natCast_nonneg, Int.toNat_natCast, List.getElem?_map, hx, hy, Option.map_some, rowAgg, avPort, avU]
            refine callX_of (C_OfT w hf x.rt) ?_
            simp only [go_sem]
            refine callX_of hA4 ?_
            simp only [go_sem]
end Go.Proofs.YtbgfkdpjnabhkaaGreatDoor.VL
end

