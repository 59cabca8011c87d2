/- Closed calls of this program, data (text 1). No condition. Printed by mkaw.py. -/
import Derived.Test.YtcbcegdidlefiaaGreatK23
namespace Go.Proofs.YtcbcegdidlefiaaGreat
open Go.RowKit

def awb0 : EBlk := .cells [(.string ⟨#[115, 101, 99, 116, 105, 111, 110]⟩), (.int .i64 1), (.int .i64 1), (.string ⟨#[65]⟩), (.int .i64 1), (.int .i64 9), (.string ⟨#[52, 48]⟩), (.int .i64 1), (.int .i64 11), (.string ⟨#[51, 48, 48, 48, 48]⟩), (.int .i64 1), (.int .i64 14), (.string ⟨#[48]⟩), (.int .i64 1), (.int .i64 20)] 326 3
/-- railplan/railplanref1.one -/
def awk0 : Cut where
  f := 288
  n := 300
  args := [(.string ⟨#[115, 101, 99, 116, 105, 111, 110, 32, 65, 32, 52, 48, 32, 51, 48, 48, 48, 48, 32, 48]⟩), (.int .i64 1)]
  pre := []
  v := (.tuple #[(.slice (some ⟨1640, 0, none⟩) 5 FULL), (.int .i64 0)])
  post := [(1640, awb0)]
  n2 := 1661
  frame := [4, 2]
def awk0_h : Hook := (fun _ _ _ _ => none)
def awb1 : EBlk := .cells [(.string ⟨#[115, 101, 99, 116, 105, 111, 110]⟩), (.int .i64 2), (.int .i64 1), (.string ⟨#[66]⟩), (.int .i64 2), (.int .i64 9), (.string ⟨#[50, 48]⟩), (.int .i64 2), (.int .i64 11), (.string ⟨#[51, 48, 48, 48, 48]⟩), (.int .i64 2), (.int .i64 14), (.string ⟨#[48]⟩), (.int .i64 2), (.int .i64 20)] 326 3
/-- railplan/railplanref1.one -/
def awk1 : Cut where
  f := 288
  n := 1964
  args := [(.string ⟨#[115, 101, 99, 116, 105, 111, 110, 32, 66, 32, 50, 48, 32, 51, 48, 48, 48, 48, 32, 48]⟩), (.int .i64 2)]
  pre := []
  v := (.tuple #[(.slice (some ⟨3304, 0, none⟩) 5 FULL), (.int .i64 0)])
  post := [(3304, awb1)]
  n2 := 3325
  frame := [1674, 1640, 1673, 4, 2]
def awk1_h : Hook := (fun _ _ _ _ => none)
def awb2 : EBlk := .cells [(.string ⟨#[115, 101, 99, 116, 105, 111, 110]⟩), (.int .i64 3), (.int .i64 1), (.string ⟨#[67]⟩), (.int .i64 3), (.int .i64 9), (.string ⟨#[50, 48]⟩), (.int .i64 3), (.int .i64 11), (.string ⟨#[51, 48, 48, 48, 48]⟩), (.int .i64 3), (.int .i64 14), (.string ⟨#[48]⟩), (.int .i64 3), (.int .i64 20)] 326 3
/-- railplan/railplanref1.one -/
def awk2 : Cut where
  f := 288
  n := 3628
  args := [(.string ⟨#[115, 101, 99, 116, 105, 111, 110, 32, 67, 32, 50, 48, 32, 51, 48, 48, 48, 48, 32, 48]⟩), (.int .i64 3)]
  pre := []
  v := (.tuple #[(.slice (some ⟨4968, 0, none⟩) 5 FULL), (.int .i64 0)])
  post := [(4968, awb2)]
  n2 := 4989
  frame := [3338, 1640, 3304, 3337, 4, 2]
def awk2_h : Hook := (fun _ _ _ _ => none)
def awb3 : EBlk := .cells [(.string ⟨#[108, 105, 110, 107]⟩), (.int .i64 4), (.int .i64 1), (.string ⟨#[65]⟩), (.int .i64 4), (.int .i64 6), (.string ⟨#[66]⟩), (.int .i64 4), (.int .i64 8), (.string ⟨#[66]⟩), (.int .i64 4), (.int .i64 10), (.string ⟨#[65]⟩), (.int .i64 4), (.int .i64 12)] 326 3
/-- railplan/railplanref1.one -/
def awk3 : Cut where
  f := 288
  n := 5188
  args := [(.string ⟨#[108, 105, 110, 107, 32, 65, 32, 66, 32, 66, 32, 65]⟩), (.int .i64 4)]
  pre := []
  v := (.tuple #[(.slice (some ⟨5880, 0, none⟩) 5 FULL), (.int .i64 0)])
  post := [(5880, awb3)]
  n2 := 5901
  frame := [5002, 1640, 3304, 4968, 5001, 4, 2]
def awk3_h : Hook := (fun _ _ _ _ => none)
def awb4 : EBlk := .cells [(.string ⟨#[108, 105, 110, 107]⟩), (.int .i64 5), (.int .i64 1), (.string ⟨#[66]⟩), (.int .i64 5), (.int .i64 6), (.string ⟨#[66]⟩), (.int .i64 5), (.int .i64 8), (.string ⟨#[67]⟩), (.int .i64 5), (.int .i64 10), (.string ⟨#[65]⟩), (.int .i64 5), (.int .i64 12)] 326 3
/-- railplan/railplanref1.one -/
def awk4 : Cut where
  f := 288
  n := 6100
  args := [(.string ⟨#[108, 105, 110, 107, 32, 66, 32, 66, 32, 67, 32, 65]⟩), (.int .i64 5)]
  pre := []
  v := (.tuple #[(.slice (some ⟨6792, 0, none⟩) 5 FULL), (.int .i64 0)])
  post := [(6792, awb4)]
  n2 := 6813
  frame := [5914, 1640, 3304, 4968, 5880, 5913, 4, 2]
def awk4_h : Hook := (fun _ _ _ _ => none)
def awb5 : EBlk := .cells [(.slice (some ⟨1640, 0, none⟩) 5 FULL), (.slice (some ⟨3304, 0, none⟩) 5 FULL), (.slice (some ⟨4968, 0, none⟩) 5 FULL), (.slice (some ⟨5880, 0, none⟩) 5 FULL), (.slice (some ⟨6792, 0, none⟩) 5 FULL)] 324 1
/-- railplan/railplanref1.Lines -/
def awk5 : Cut where
  f := 187
  n := 9
  args := [(.string ⟨#[115, 101, 99, 116, 105, 111, 110, 32, 65, 32, 52, 48, 32, 51, 48, 48, 48, 48, 32, 48, 10, 115, 101, 99, 116, 105, 111, 110, 32, 66, 32, 50, 48, 32, 51, 48, 48, 48, 48, 32, 48, 10, 115, 101, 99, 116, 105, 111, 110, 32, 67, 32, 50, 48, 32, 51, 48, 48, 48, 48, 32, 48, 10, 108, 105, 110, 107, 32, 65, 32, 66, 32, 66, 32, 65, 10, 108, 105, 110, 107, 32, 66, 32, 66, 32, 67, 32, 65, 10]⟩)]
  pre := []
  v := (.tuple #[(.slice (some ⟨6826, 0, none⟩) 5 FULL), (.int .i64 0), (.int .i64 0)])
  post := [(6826, awb5), (1640, awb0), (3304, awb1), (4968, awb2), (5880, awb3), (6792, awb4)]
  n2 := 6842
  frame := [4, 2]
def awk5_h : Hook := (cutHook awk0 (cutHook awk1 (cutHook awk2 (cutHook awk3 (cutHook awk4 (fun _ _ _ _ => none))))))
def awb6 : EBlk := .cells [(.string ⟨#[65]⟩), (.int .i64 40), (.int .i64 30000), (.int .i64 0), (.int .i64 (-1)), (.string ⟨#[66]⟩), (.int .i64 20), (.int .i64 30000), (.int .i64 0), (.int .i64 (-1)), (.string ⟨#[67]⟩), (.int .i64 20), (.int .i64 30000), (.int .i64 0), (.int .i64 (-1))] 185 5
def awb7 : EBlk := .cells [(.int .i64 0), (.int .i64 1), (.int .i64 1), (.int .i64 0), (.int .i64 (-1)), (.int .i64 0), (.int .i64 1), (.int .i64 1), (.int .i64 2), (.int .i64 0), (.int .i64 (-1)), (.int .i64 0)] 196 6
/-- railplan/railplanref1.Check -/
def awk6 : Cut where
  f := 33
  n := 8975
  args := [(.agg #[(.slice none 0 0), (.slice none 0 0), (.slice (some ⟨8377, 0, none⟩) 3 FULL), (.slice (some ⟨8957, 0, none⟩) 2 FULL)])]
  pre := [(8377, awb6), (8957, awb7)]
  v := (.int .i64 0)
  post := [(8377, awb6), (8957, awb7)]
  n2 := 10209
  frame := [4, 6826, 1640, 3304, 4968, 5880, 6792, 6851, 2]
def awk6_h : Hook := (fun _ _ _ _ => none)
/-- railplan/railplanref1.Parse -/
def awk7 : Cut where
  f := 107
  n := 4
  args := [(.string ⟨#[115, 101, 99, 116, 105, 111, 110, 32, 65, 32, 52, 48, 32, 51, 48, 48, 48, 48, 32, 48, 10, 115, 101, 99, 116, 105, 111, 110, 32, 66, 32, 50, 48, 32, 51, 48, 48, 48, 48, 32, 48, 10, 115, 101, 99, 116, 105, 111, 110, 32, 67, 32, 50, 48, 32, 51, 48, 48, 48, 48, 32, 48, 10, 108, 105, 110, 107, 32, 65, 32, 66, 32, 66, 32, 65, 10, 108, 105, 110, 107, 32, 66, 32, 66, 32, 67, 32, 65, 10]⟩)]
  pre := []
  v := (.tuple #[(.agg #[(.slice none 0 0), (.slice none 0 0), (.slice (some ⟨8377, 0, none⟩) 3 FULL), (.slice (some ⟨8957, 0, none⟩) 2 FULL)]), (.int .i64 0), (.int .i64 0)])
  post := [(8377, awb6), (8957, awb7)]
  n2 := 10216
  frame := [2]
def awk7_h : Hook := (cutHook awk5 (cutHook awk6 (fun _ _ _ _ => none)))
/-- railplan/railplanref1.Check -/
def awk8 : Cut where
  f := 33
  n := 10368
  args := [(.agg #[(.slice none 0 0), (.slice none 0 0), (.slice (some ⟨8377, 0, none⟩) 3 FULL), (.slice (some ⟨8957, 0, none⟩) 2 FULL)])]
  pre := [(8377, awb6), (8957, awb7)]
  v := (.int .i64 0)
  post := [(8377, awb6), (8957, awb7)]
  n2 := 11602
  frame := [10227, 10363, 10364, 10355, 10356, 10348, 10349, 10350, 10340, 10341, 10342, 10331, 10332, 10333, 10334, 10328, 10236, 10302, 10240, 10295, 10238, 10242, 10296, 10249, 10250, 10245]
def awk8_h : Hook := (fun _ _ _ _ => none)
def awb8 : EBlk := .cells [(.int .i64 0), (.int .i64 0), (.int .i64 1), (.int .i64 0), (.int .i64 2), (.int .i64 0)] 200 1
/-- railplan/railplanref6.CheckRoute -/
def awk9 : Cut where
  f := 35
  n := 10363
  args := [(.agg #[(.slice none 0 0), (.slice none 0 0), (.slice (some ⟨8377, 0, none⟩) 3 FULL), (.slice (some ⟨8957, 0, none⟩) 2 FULL)]), (.agg #[(.slice (some ⟨10227, 0, none⟩) 3 3), (.int .i64 0)])]
  pre := [(8377, awb6), (8957, awb7), (10227, awb8)]
  v := (.int .i64 0)
  post := [(8377, awb6), (8957, awb7), (10227, awb8)]
  n2 := 12246
  frame := [10355, 10356, 10348, 10349, 10350, 10340, 10341, 10342, 10331, 10332, 10333, 10334, 10328, 10236, 10302, 10240, 10295, 10238, 10242, 10296, 10249, 10250, 10245]
def awk9_h : Hook := (cutHook awk8 (fun _ _ _ _ => none))
def awb9 : EBlk := .cells [(.int .i64 30000), (.int .i64 0), (.int .i64 30000), (.int .i64 0), (.int .i64 30000), (.int .i64 0), (.int .i64 30000), (.int .i64 0), (.int .i64 30000), (.int .i64 0), (.int .i64 30000), (.int .i64 0), (.int .i64 30000), (.int .i64 0), (.int .i64 30000), (.int .i64 0), (.int .i64 30000), (.int .i64 0), (.int .i64 30000), (.int .i64 0), (.int .i64 30000), (.int .i64 0), (.int .i64 30000), (.int .i64 0), (.int .i64 30000), (.int .i64 0), (.int .i64 30000), (.int .i64 0), (.int .i64 30000), (.int .i64 0), (.int .i64 30000), (.int .i64 0), (.int .i64 30000), (.int .i64 0), (.int .i64 30000), (.int .i64 0), (.int .i64 30000), (.int .i64 0), (.int .i64 30000), (.int .i64 0), (.int .i64 30000), (.int .i64 0), (.int .i64 30000), (.int .i64 0), (.int .i64 30000), (.int .i64 0), (.int .i64 30000), (.int .i64 0), (.int .i64 30000), (.int .i64 0), (.int .i64 30000), (.int .i64 0), (.int .i64 30000), (.int .i64 0), (.int .i64 30000), (.int .i64 0), (.int .i64 30000), (.int .i64 0), (.int .i64 30000), (.int .i64 0), (.int .i64 30000), (.int .i64 0), (.int .i64 30000), (.int .i64 0), (.int .i64 30000), (.int .i64 0), (.int .i64 30000), (.int .i64 0), (.int .i64 30000), (.int .i64 0), (.int .i64 30000), (.int .i64 0), (.int .i64 30000), (.int .i64 0), (.int .i64 30000), (.int .i64 0), (.int .i64 30000), (.int .i64 0), (.int .i64 30000), (.int .i64 0), (.int .i64 30000), (.int .i64 0), (.int .i64 30000), (.int .i64 0), (.int .i64 30000), (.int .i64 0), (.int .i64 30000), (.int .i64 0), (.int .i64 30000), (.int .i64 0), (.int .i64 30000), (.int .i64 0), (.int .i64 30000), (.int .i64 0), (.int .i64 30000), (.int .i64 0), (.int .i64 30000), (.int .i64 0), (.int .i64 30000), (.int .i64 0), (.int .i64 30000), (.int .i64 0), (.int .i64 30000), (.int .i64 0), (.int .i64 30000), (.int .i64 0), (.int .i64 30000), (.int .i64 0), (.int .i64 30000), (.int .i64 0), (.int .i64 30000), (.int .i64 0), (.int .i64 30000), (.int .i64 0), (.int .i64 30000), (.int .i64 0), (.int .i64 30000), (.int .i64 0), (.int .i64 30000), (.int .i64 0), (.int .i64 30000), (.int .i64 0), (.int .i64 30000), (.int .i64 0), (.int .i64 30000), (.int .i64 0), (.int .i64 30000), (.int .i64 0), (.int .i64 30000), (.int .i64 0), (.int .i64 30000), (.int .i64 0), (.int .i64 30000), (.int .i64 0), (.int .i64 30000), (.int .i64 0), (.int .i64 30000), (.int .i64 0), (.int .i64 30000), (.int .i64 0), (.int .i64 30000), (.int .i64 0), (.int .i64 30000), (.int .i64 0), (.int .i64 30000), (.int .i64 0), (.int .i64 30000), (.int .i64 0), (.int .i64 30000), (.int .i64 0), (.int .i64 30000), (.int .i64 0), (.int .i64 30000), (.int .i64 0), (.int .i64 30000), (.int .i64 0), (.int .i64 30000), (.int .i64 0), (.int .i64 30000), (.int .i64 0)] 415 2
/-- railplan/railplanref6.Cells -/
def awk10 : Cut where
  f := 181
  n := 10355
  args := [(.agg #[(.slice none 0 0), (.slice none 0 0), (.slice (some ⟨8377, 0, none⟩) 3 FULL), (.slice (some ⟨8957, 0, none⟩) 2 FULL)]), (.agg #[(.slice (some ⟨10227, 0, none⟩) 3 3), (.int .i64 0)])]
  pre := [(8377, awb6), (8957, awb7), (10227, awb8)]
  v := (.tuple #[(.slice (some ⟨13553, 0, none⟩) 80 FULL), (.int .i64 40), (.int .i64 0)])
  post := [(13553, awb9), (8377, awb6), (8957, awb7), (10227, awb8)]
  n2 := 13590
  frame := [10348, 10349, 10350, 10340, 10341, 10342, 10331, 10332, 10333, 10334, 10328, 10236, 10302, 10240, 10295, 10238, 10242, 10296, 10249, 10250, 10245]
def awk10_h : Hook := (cutHook awk9 (fun _ _ _ _ => none))
/-- railplan/railplanref30.Fits -/
def awk11 : Cut where
  f := 95
  n := 10340
  args := [(.agg #[(.slice none 0 0), (.slice none 0 0), (.slice (some ⟨8377, 0, none⟩) 3 FULL), (.slice (some ⟨8957, 0, none⟩) 2 FULL)]), (.agg #[(.slice (some ⟨10227, 0, none⟩) 3 3), (.int .i64 0)]), (.agg #[(.string ⟨#[]⟩), (.int .i64 20), (.int .i64 30000), (.int .i64 500), (.int .i64 500)])]
  pre := [(8377, awb6), (8957, awb7), (10227, awb8)]
  v := (.int .i64 0)
  post := [(8377, awb6), (8957, awb7), (10227, awb8)]
  n2 := 14131
  frame := [10331, 10332, 10333, 10334, 10328, 10236, 10302, 10240, 10295, 10238, 10242, 10296, 10249, 10250, 10245]
def awk11_h : Hook := (cutHook awk10 (fun _ _ _ _ => none))
/-- railplan/railplanref1.Check -/
def awk12 : Cut where
  f := 33
  n := 14229
  args := [(.agg #[(.slice none 0 0), (.slice none 0 0), (.slice (some ⟨8377, 0, none⟩) 3 FULL), (.slice (some ⟨8957, 0, none⟩) 2 FULL)])]
  pre := [(8377, awb6), (8957, awb7)]
  v := (.int .i64 0)
  post := [(8377, awb6), (8957, awb7)]
  n2 := 15463
  frame := [14193, 14224, 14225, 14216, 14217, 14209, 14210, 14211, 14198, 14199, 14200, 10227, 10331, 10332, 10333, 10334, 10328, 10236, 10302, 10240, 10295, 10238, 10242, 10296, 10249, 10250, 10245]
def awk12_h : Hook := (fun _ _ _ _ => none)
def awb10 : EBlk := .cells [(.int .i64 0), (.int .i64 0), (.int .i64 1), (.int .i64 0), (.int .i64 2), (.int .i64 0)] 200 2
/-- railplan/railplanref6.CheckRoute -/
def awk13 : Cut where
  f := 35
  n := 14224
  args := [(.agg #[(.slice none 0 0), (.slice none 0 0), (.slice (some ⟨8377, 0, none⟩) 3 FULL), (.slice (some ⟨8957, 0, none⟩) 2 FULL)]), (.agg #[(.slice (some ⟨14193, 0, none⟩) 3 FULL), (.int .i64 0)])]
  pre := [(8377, awb6), (8957, awb7), (14193, awb10)]
  v := (.int .i64 0)
  post := [(8377, awb6), (8957, awb7), (14193, awb10)]
  n2 := 16107
  frame := [14216, 14217, 14209, 14210, 14211, 14198, 14199, 14200, 10227, 10331, 10332, 10333, 10334, 10328, 10236, 10302, 10240, 10295, 10238, 10242, 10296, 10249, 10250, 10245]
def awk13_h : Hook := (cutHook awk12 (fun _ _ _ _ => none))
/-- railplan/railplanref6.Cells -/
def awk14 : Cut where
  f := 181
  n := 14216
  args := [(.agg #[(.slice none 0 0), (.slice none 0 0), (.slice (some ⟨8377, 0, none⟩) 3 FULL), (.slice (some ⟨8957, 0, none⟩) 2 FULL)]), (.agg #[(.slice (some ⟨14193, 0, none⟩) 3 FULL), (.int .i64 0)])]
  pre := [(8377, awb6), (8957, awb7), (14193, awb10)]
  v := (.tuple #[(.slice (some ⟨17414, 0, none⟩) 80 FULL), (.int .i64 40), (.int .i64 0)])
  post := [(17414, awb9), (8377, awb6), (8957, awb7), (14193, awb10)]
  n2 := 17451
  frame := [14209, 14210, 14211, 14198, 14199, 14200, 10227, 10331, 10332, 10333, 10334, 10328, 10236, 10302, 10240, 10295, 10238, 10242, 10296, 10249, 10250, 10245]
def awk14_h : Hook := (cutHook awk13 (fun _ _ _ _ => none))
/-- railplan/railplanref1.Check -/
def awk15 : Cut where
  f := 33
  n := 17631
  args := [(.agg #[(.slice none 0 0), (.slice none 0 0), (.slice (some ⟨8377, 0, none⟩) 3 FULL), (.slice (some ⟨8957, 0, none⟩) 2 FULL)])]
  pre := [(8377, awb6), (8957, awb7)]
  v := (.int .i64 0)
  post := [(8377, awb6), (8957, awb7)]
  n2 := 18865
  frame := [14193, 17626, 17627, 17618, 17619, 14198, 14199, 14200, 10227, 10331, 10332, 10333, 10334, 10328, 10236, 10302, 10240, 10295, 10238, 10242, 10296, 10249, 10250, 10245]
def awk15_h : Hook := (fun _ _ _ _ => none)
/-- railplan/railplanref6.CheckRoute -/
def awk16 : Cut where
  f := 35
  n := 17626
  args := [(.agg #[(.slice none 0 0), (.slice none 0 0), (.slice (some ⟨8377, 0, none⟩) 3 FULL), (.slice (some ⟨8957, 0, none⟩) 2 FULL)]), (.agg #[(.slice (some ⟨14193, 0, none⟩) 3 FULL), (.int .i64 0)])]
  pre := [(8377, awb6), (8957, awb7), (14193, awb10)]
  v := (.int .i64 0)
  post := [(8377, awb6), (8957, awb7), (14193, awb10)]
  n2 := 19509
  frame := [17618, 17619, 14198, 14199, 14200, 10227, 10331, 10332, 10333, 10334, 10328, 10236, 10302, 10240, 10295, 10238, 10242, 10296, 10249, 10250, 10245]
def awk16_h : Hook := (cutHook awk15 (fun _ _ _ _ => none))
/-- railplan/railplanref6.Cells -/
def awk17 : Cut where
  f := 181
  n := 17618
  args := [(.agg #[(.slice none 0 0), (.slice none 0 0), (.slice (some ⟨8377, 0, none⟩) 3 FULL), (.slice (some ⟨8957, 0, none⟩) 2 FULL)]), (.agg #[(.slice (some ⟨14193, 0, none⟩) 3 FULL), (.int .i64 0)])]
  pre := [(8377, awb6), (8957, awb7), (14193, awb10)]
  v := (.tuple #[(.slice (some ⟨20816, 0, none⟩) 80 FULL), (.int .i64 40), (.int .i64 0)])
  post := [(20816, awb9), (8377, awb6), (8957, awb7), (14193, awb10)]
  n2 := 20853
  frame := [14198, 14199, 14200, 10227, 10331, 10332, 10333, 10334, 10328, 10236, 10302, 10240, 10295, 10238, 10242, 10296, 10249, 10250, 10245]
def awk17_h : Hook := (cutHook awk16 (fun _ _ _ _ => none))
/-- railplan/railplanref6.bad -/
def awk18 : Cut where
  f := 386
  n := 20878
  args := [(.slice (some ⟨20816, 0, none⟩) 80 FULL), (.int .i64 40), (.agg #[(.string ⟨#[]⟩), (.int .i64 20), (.int .i64 30000), (.int .i64 500), (.int .i64 500)])]
  pre := [(20816, awb9)]
  v := (.int .i64 0)
  post := [(20816, awb9)]
  n2 := 24402
  frame := [20871, 20864, 8377, 8957, 14193, 14198, 14199, 14200, 10227, 10331, 10332, 10333, 10334, 10328, 10236, 10302, 10240, 10295, 10238, 10242, 10296, 10249, 10250, 10245]
def awk18_h : Hook := (fun _ _ _ _ => none)
/-- railplan/railplanref6.limit -/
def awk19 : Cut where
  f := 387
  n := 24433
  args := [(.slice (some ⟨20816, 0, none⟩) 80 FULL), (.int .i64 40), (.agg #[(.string ⟨#[]⟩), (.int .i64 20), (.int .i64 30000), (.int .i64 500), (.int .i64 500)])]
  pre := [(20816, awb9)]
  v := (.int .i64 30000)
  post := [(20816, awb9)]
  n2 := 24743
  frame := [20871, 24412, 20864, 8377, 8957, 14193, 14198, 14199, 14200, 10227, 10331, 10332, 10333, 10334, 10328, 10236, 10302, 10240, 10295, 10238, 10242, 10296, 10249, 10250, 10245]
def awk19_h : Hook := (fun _ _ _ _ => none)
/-- railplan/railplanref6.limit -/
def awk20 : Cut where
  f := 387
  n := 24743
  args := [(.slice (some ⟨20816, 0, none⟩) 80 FULL), (.int .i64 41), (.agg #[(.string ⟨#[]⟩), (.int .i64 20), (.int .i64 30000), (.int .i64 500), (.int .i64 500)])]
  pre := [(20816, awb9)]
  v := (.int .i64 30000)
  post := [(20816, awb9)]
  n2 := 25053
  frame := [20871, 24412, 20864, 8377, 8957, 14193, 14198, 14199, 14200, 10227, 10331, 10332, 10333, 10334, 10328, 10236, 10302, 10240, 10295, 10238, 10242, 10296, 10249, 10250, 10245]
def awk20_h : Hook := (fun _ _ _ _ => none)
/-- railplan/railplanref6.limit -/
def awk21 : Cut where
  f := 387
  n := 25081
  args := [(.slice (some ⟨20816, 0, none⟩) 80 FULL), (.int .i64 41), (.agg #[(.string ⟨#[]⟩), (.int .i64 20), (.int .i64 30000), (.int .i64 500), (.int .i64 500)])]
  pre := [(20816, awb9)]
  v := (.int .i64 30000)
  post := [(20816, awb9)]
  n2 := 25391
  frame := [20871, 24412, 20864, 8377, 8957, 14193, 14198, 14199, 14200, 10227, 10331, 10332, 10333, 10334, 10328, 10236, 10302, 10240, 10295, 10238, 10242, 10296, 10249, 10250, 10245]
def awk21_h : Hook := (fun _ _ _ _ => none)
/-- railplan/railplanref6.limit -/
def awk22 : Cut where
  f := 387
  n := 25391
  args := [(.slice (some ⟨20816, 0, none⟩) 80 FULL), (.int .i64 42), (.agg #[(.string ⟨#[]⟩), (.int .i64 20), (.int .i64 30000), (.int .i64 500), (.int .i64 500)])]
  pre := [(20816, awb9)]
  v := (.int .i64 30000)
  post := [(20816, awb9)]
  n2 := 25701
  frame := [20871, 24412, 20864, 8377, 8957, 14193, 14198, 14199, 14200, 10227, 10331, 10332, 10333, 10334, 10328, 10236, 10302, 10240, 10295, 10238, 10242, 10296, 10249, 10250, 10245]
def awk22_h : Hook := (fun _ _ _ _ => none)
/-- railplan/railplanref6.limit -/
def awk23 : Cut where
  f := 387
  n := 25729
  args := [(.slice (some ⟨20816, 0, none⟩) 80 FULL), (.int .i64 42), (.agg #[(.string ⟨#[]⟩), (.int .i64 20), (.int .i64 30000), (.int .i64 500), (.int .i64 500)])]
  pre := [(20816, awb9)]
  v := (.int .i64 30000)
  post := [(20816, awb9)]
  n2 := 26039
  frame := [20871, 24412, 20864, 8377, 8957, 14193, 14198, 14199, 14200, 10227, 10331, 10332, 10333, 10334, 10328, 10236, 10302, 10240, 10295, 10238, 10242, 10296, 10249, 10250, 10245]
def awk23_h : Hook := (fun _ _ _ _ => none)
/-- railplan/railplanref6.limit -/
def awk24 : Cut where
  f := 387
  n := 26039
  args := [(.slice (some ⟨20816, 0, none⟩) 80 FULL), (.int .i64 43), (.agg #[(.string ⟨#[]⟩), (.int .i64 20), (.int .i64 30000), (.int .i64 500), (.int .i64 500)])]
  pre := [(20816, awb9)]
  v := (.int .i64 30000)
  post := [(20816, awb9)]
  n2 := 26349
  frame := [20871, 24412, 20864, 8377, 8957, 14193, 14198, 14199, 14200, 10227, 10331, 10332, 10333, 10334, 10328, 10236, 10302, 10240, 10295, 10238, 10242, 10296, 10249, 10250, 10245]
def awk24_h : Hook := (fun _ _ _ _ => none)
/-- railplan/railplanref6.limit -/
def awk25 : Cut where
  f := 387
  n := 26377
  args := [(.slice (some ⟨20816, 0, none⟩) 80 FULL), (.int .i64 43), (.agg #[(.string ⟨#[]⟩), (.int .i64 20), (.int .i64 30000), (.int .i64 500), (.int .i64 500)])]
  pre := [(20816, awb9)]
  v := (.int .i64 30000)
  post := [(20816, awb9)]
  n2 := 26687
  frame := [20871, 24412, 20864, 8377, 8957, 14193, 14198, 14199, 14200, 10227, 10331, 10332, 10333, 10334, 10328, 10236, 10302, 10240, 10295, 10238, 10242, 10296, 10249, 10250, 10245]
def awk25_h : Hook := (fun _ _ _ _ => none)
/-- railplan/railplanref6.limit -/
def awk26 : Cut where
  f := 387
  n := 26687
  args := [(.slice (some ⟨20816, 0, none⟩) 80 FULL), (.int .i64 44), (.agg #[(.string ⟨#[]⟩), (.int .i64 20), (.int .i64 30000), (.int .i64 500), (.int .i64 500)])]
  pre := [(20816, awb9)]
  v := (.int .i64 30000)
  post := [(20816, awb9)]
  n2 := 26997
  frame := [20871, 24412, 20864, 8377, 8957, 14193, 14198, 14199, 14200, 10227, 10331, 10332, 10333, 10334, 10328, 10236, 10302, 10240, 10295, 10238, 10242, 10296, 10249, 10250, 10245]
def awk26_h : Hook := (fun _ _ _ _ => none)
/-- railplan/railplanref6.limit -/
def awk27 : Cut where
  f := 387
  n := 27025
  args := [(.slice (some ⟨20816, 0, none⟩) 80 FULL), (.int .i64 44), (.agg #[(.string ⟨#[]⟩), (.int .i64 20), (.int .i64 30000), (.int .i64 500), (.int .i64 500)])]
  pre := [(20816, awb9)]
  v := (.int .i64 30000)
  post := [(20816, awb9)]
  n2 := 27335
  frame := [20871, 24412, 20864, 8377, 8957, 14193, 14198, 14199, 14200, 10227, 10331, 10332, 10333, 10334, 10328, 10236, 10302, 10240, 10295, 10238, 10242, 10296, 10249, 10250, 10245]
def awk27_h : Hook := (fun _ _ _ _ => none)
/-- railplan/railplanref6.limit -/
def awk28 : Cut where
  f := 387
  n := 27335
  args := [(.slice (some ⟨20816, 0, none⟩) 80 FULL), (.int .i64 45), (.agg #[(.string ⟨#[]⟩), (.int .i64 20), (.int .i64 30000), (.int .i64 500), (.int .i64 500)])]
  pre := [(20816, awb9)]
  v := (.int .i64 30000)
  post := [(20816, awb9)]
  n2 := 27645
  frame := [20871, 24412, 20864, 8377, 8957, 14193, 14198, 14199, 14200, 10227, 10331, 10332, 10333, 10334, 10328, 10236, 10302, 10240, 10295, 10238, 10242, 10296, 10249, 10250, 10245]
def awk28_h : Hook := (fun _ _ _ _ => none)
/-- railplan/railplanref6.limit -/
def awk29 : Cut where
  f := 387
  n := 27673
  args := [(.slice (some ⟨20816, 0, none⟩) 80 FULL), (.int .i64 45), (.agg #[(.string ⟨#[]⟩), (.int .i64 20), (.int .i64 30000), (.int .i64 500), (.int .i64 500)])]
  pre := [(20816, awb9)]
  v := (.int .i64 30000)
  post := [(20816, awb9)]
  n2 := 27983
  frame := [20871, 24412, 20864, 8377, 8957, 14193, 14198, 14199, 14200, 10227, 10331, 10332, 10333, 10334, 10328, 10236, 10302, 10240, 10295, 10238, 10242, 10296, 10249, 10250, 10245]
def awk29_h : Hook := (fun _ _ _ _ => none)
/-- railplan/railplanref6.limit -/
def awk30 : Cut where
  f := 387
  n := 27983
  args := [(.slice (some ⟨20816, 0, none⟩) 80 FULL), (.int .i64 46), (.agg #[(.string ⟨#[]⟩), (.int .i64 20), (.int .i64 30000), (.int .i64 500), (.int .i64 500)])]
  pre := [(20816, awb9)]
  v := (.int .i64 30000)
  post := [(20816, awb9)]
  n2 := 28293
  frame := [20871, 24412, 20864, 8377, 8957, 14193, 14198, 14199, 14200, 10227, 10331, 10332, 10333, 10334, 10328, 10236, 10302, 10240, 10295, 10238, 10242, 10296, 10249, 10250, 10245]
def awk30_h : Hook := (fun _ _ _ _ => none)
/-- railplan/railplanref6.limit -/
def awk31 : Cut where
  f := 387
  n := 28321
  args := [(.slice (some ⟨20816, 0, none⟩) 80 FULL), (.int .i64 46), (.agg #[(.string ⟨#[]⟩), (.int .i64 20), (.int .i64 30000), (.int .i64 500), (.int .i64 500)])]
  pre := [(20816, awb9)]
  v := (.int .i64 30000)
  post := [(20816, awb9)]
  n2 := 28631
  frame := [20871, 24412, 20864, 8377, 8957, 14193, 14198, 14199, 14200, 10227, 10331, 10332, 10333, 10334, 10328, 10236, 10302, 10240, 10295, 10238, 10242, 10296, 10249, 10250, 10245]
def awk31_h : Hook := (fun _ _ _ _ => none)
/-- railplan/railplanref6.limit -/
def awk32 : Cut where
  f := 387
  n := 28631
  args := [(.slice (some ⟨20816, 0, none⟩) 80 FULL), (.int .i64 47), (.agg #[(.string ⟨#[]⟩), (.int .i64 20), (.int .i64 30000), (.int .i64 500), (.int .i64 500)])]
  pre := [(20816, awb9)]
  v := (.int .i64 30000)
  post := [(20816, awb9)]
  n2 := 28941
  frame := [20871, 24412, 20864, 8377, 8957, 14193, 14198, 14199, 14200, 10227, 10331, 10332, 10333, 10334, 10328, 10236, 10302, 10240, 10295, 10238, 10242, 10296, 10249, 10250, 10245]
def awk32_h : Hook := (fun _ _ _ _ => none)
/-- railplan/railplanref6.limit -/
def awk33 : Cut where
  f := 387
  n := 28969
  args := [(.slice (some ⟨20816, 0, none⟩) 80 FULL), (.int .i64 47), (.agg #[(.string ⟨#[]⟩), (.int .i64 20), (.int .i64 30000), (.int .i64 500), (.int .i64 500)])]
  pre := [(20816, awb9)]
  v := (.int .i64 30000)
  post := [(20816, awb9)]
  n2 := 29279
  frame := [20871, 24412, 20864, 8377, 8957, 14193, 14198, 14199, 14200, 10227, 10331, 10332, 10333, 10334, 10328, 10236, 10302, 10240, 10295, 10238, 10242, 10296, 10249, 10250, 10245]
def awk33_h : Hook := (fun _ _ _ _ => none)
/-- railplan/railplanref6.limit -/
def awk34 : Cut where
  f := 387
  n := 29279
  args := [(.slice (some ⟨20816, 0, none⟩) 80 FULL), (.int .i64 48), (.agg #[(.string ⟨#[]⟩), (.int .i64 20), (.int .i64 30000), (.int .i64 500), (.int .i64 500)])]
  pre := [(20816, awb9)]
  v := (.int .i64 30000)
  post := [(20816, awb9)]
  n2 := 29589
  frame := [20871, 24412, 20864, 8377, 8957, 14193, 14198, 14199, 14200, 10227, 10331, 10332, 10333, 10334, 10328, 10236, 10302, 10240, 10295, 10238, 10242, 10296, 10249, 10250, 10245]
def awk34_h : Hook := (fun _ _ _ _ => none)
/-- railplan/railplanref6.limit -/
def awk35 : Cut where
  f := 387
  n := 29617
  args := [(.slice (some ⟨20816, 0, none⟩) 80 FULL), (.int .i64 48), (.agg #[(.string ⟨#[]⟩), (.int .i64 20), (.int .i64 30000), (.int .i64 500), (.int .i64 500)])]
  pre := [(20816, awb9)]
  v := (.int .i64 30000)
  post := [(20816, awb9)]
  n2 := 29927
  frame := [20871, 24412, 20864, 8377, 8957, 14193, 14198, 14199, 14200, 10227, 10331, 10332, 10333, 10334, 10328, 10236, 10302, 10240, 10295, 10238, 10242, 10296, 10249, 10250, 10245]
def awk35_h : Hook := (fun _ _ _ _ => none)
/-- railplan/railplanref6.limit -/
def awk36 : Cut where
  f := 387
  n := 29927
  args := [(.slice (some ⟨20816, 0, none⟩) 80 FULL), (.int .i64 49), (.agg #[(.string ⟨#[]⟩), (.int .i64 20), (.int .i64 30000), (.int .i64 500), (.int .i64 500)])]
  pre := [(20816, awb9)]
  v := (.int .i64 30000)
  post := [(20816, awb9)]
  n2 := 30237
  frame := [20871, 24412, 20864, 8377, 8957, 14193, 14198, 14199, 14200, 10227, 10331, 10332, 10333, 10334, 10328, 10236, 10302, 10240, 10295, 10238, 10242, 10296, 10249, 10250, 10245]
def awk36_h : Hook := (fun _ _ _ _ => none)
/-- railplan/railplanref6.limit -/
def awk37 : Cut where
  f := 387
  n := 30265
  args := [(.slice (some ⟨20816, 0, none⟩) 80 FULL), (.int .i64 49), (.agg #[(.string ⟨#[]⟩), (.int .i64 20), (.int .i64 30000), (.int .i64 500), (.int .i64 500)])]
  pre := [(20816, awb9)]
  v := (.int .i64 30000)
  post := [(20816, awb9)]
  n2 := 30575
  frame := [20871, 24412, 20864, 8377, 8957, 14193, 14198, 14199, 14200, 10227, 10331, 10332, 10333, 10334, 10328, 10236, 10302, 10240, 10295, 10238, 10242, 10296, 10249, 10250, 10245]
def awk37_h : Hook := (fun _ _ _ _ => none)
/-- railplan/railplanref6.limit -/
def awk38 : Cut where
  f := 387
  n := 30575
  args := [(.slice (some ⟨20816, 0, none⟩) 80 FULL), (.int .i64 50), (.agg #[(.string ⟨#[]⟩), (.int .i64 20), (.int .i64 30000), (.int .i64 500), (.int .i64 500)])]
  pre := [(20816, awb9)]
  v := (.int .i64 30000)
  post := [(20816, awb9)]
  n2 := 30885
  frame := [20871, 24412, 20864, 8377, 8957, 14193, 14198, 14199, 14200, 10227, 10331, 10332, 10333, 10334, 10328, 10236, 10302, 10240, 10295, 10238, 10242, 10296, 10249, 10250, 10245]
def awk38_h : Hook := (fun _ _ _ _ => none)
/-- railplan/railplanref6.limit -/
def awk39 : Cut where
  f := 387
  n := 30913
  args := [(.slice (some ⟨20816, 0, none⟩) 80 FULL), (.int .i64 50), (.agg #[(.string ⟨#[]⟩), (.int .i64 20), (.int .i64 30000), (.int .i64 500), (.int .i64 500)])]
  pre := [(20816, awb9)]
  v := (.int .i64 30000)
  post := [(20816, awb9)]
  n2 := 31223
  frame := [20871, 24412, 20864, 8377, 8957, 14193, 14198, 14199, 14200, 10227, 10331, 10332, 10333, 10334, 10328, 10236, 10302, 10240, 10295, 10238, 10242, 10296, 10249, 10250, 10245]
def awk39_h : Hook := (fun _ _ _ _ => none)
/-- railplan/railplanref6.limit -/
def awk40 : Cut where
  f := 387
  n := 31223
  args := [(.slice (some ⟨20816, 0, none⟩) 80 FULL), (.int .i64 51), (.agg #[(.string ⟨#[]⟩), (.int .i64 20), (.int .i64 30000), (.int .i64 500), (.int .i64 500)])]
  pre := [(20816, awb9)]
  v := (.int .i64 30000)
  post := [(20816, awb9)]
  n2 := 31533
  frame := [20871, 24412, 20864, 8377, 8957, 14193, 14198, 14199, 14200, 10227, 10331, 10332, 10333, 10334, 10328, 10236, 10302, 10240, 10295, 10238, 10242, 10296, 10249, 10250, 10245]
def awk40_h : Hook := (fun _ _ _ _ => none)
/-- railplan/railplanref6.limit -/
def awk41 : Cut where
  f := 387
  n := 31561
  args := [(.slice (some ⟨20816, 0, none⟩) 80 FULL), (.int .i64 51), (.agg #[(.string ⟨#[]⟩), (.int .i64 20), (.int .i64 30000), (.int .i64 500), (.int .i64 500)])]
  pre := [(20816, awb9)]
  v := (.int .i64 30000)
  post := [(20816, awb9)]
  n2 := 31871
  frame := [20871, 24412, 20864, 8377, 8957, 14193, 14198, 14199, 14200, 10227, 10331, 10332, 10333, 10334, 10328, 10236, 10302, 10240, 10295, 10238, 10242, 10296, 10249, 10250, 10245]
def awk41_h : Hook := (fun _ _ _ _ => none)
/-- railplan/railplanref6.limit -/
def awk42 : Cut where
  f := 387
  n := 31871
  args := [(.slice (some ⟨20816, 0, none⟩) 80 FULL), (.int .i64 52), (.agg #[(.string ⟨#[]⟩), (.int .i64 20), (.int .i64 30000), (.int .i64 500), (.int .i64 500)])]
  pre := [(20816, awb9)]
  v := (.int .i64 30000)
  post := [(20816, awb9)]
  n2 := 32181
  frame := [20871, 24412, 20864, 8377, 8957, 14193, 14198, 14199, 14200, 10227, 10331, 10332, 10333, 10334, 10328, 10236, 10302, 10240, 10295, 10238, 10242, 10296, 10249, 10250, 10245]
def awk42_h : Hook := (fun _ _ _ _ => none)
/-- railplan/railplanref6.limit -/
def awk43 : Cut where
  f := 387
  n := 32209
  args := [(.slice (some ⟨20816, 0, none⟩) 80 FULL), (.int .i64 52), (.agg #[(.string ⟨#[]⟩), (.int .i64 20), (.int .i64 30000), (.int .i64 500), (.int .i64 500)])]
  pre := [(20816, awb9)]
  v := (.int .i64 30000)
  post := [(20816, awb9)]
  n2 := 32519
  frame := [20871, 24412, 20864, 8377, 8957, 14193, 14198, 14199, 14200, 10227, 10331, 10332, 10333, 10334, 10328, 10236, 10302, 10240, 10295, 10238, 10242, 10296, 10249, 10250, 10245]
def awk43_h : Hook := (fun _ _ _ _ => none)
/-- railplan/railplanref6.limit -/
def awk44 : Cut where
  f := 387
  n := 32519
  args := [(.slice (some ⟨20816, 0, none⟩) 80 FULL), (.int .i64 53), (.agg #[(.string ⟨#[]⟩), (.int .i64 20), (.int .i64 30000), (.int .i64 500), (.int .i64 500)])]
  pre := [(20816, awb9)]
  v := (.int .i64 30000)
  post := [(20816, awb9)]
  n2 := 32829
  frame := [20871, 24412, 20864, 8377, 8957, 14193, 14198, 14199, 14200, 10227, 10331, 10332, 10333, 10334, 10328, 10236, 10302, 10240, 10295, 10238, 10242, 10296, 10249, 10250, 10245]
def awk44_h : Hook := (fun _ _ _ _ => none)
/-- railplan/railplanref6.limit -/
def awk45 : Cut where
  f := 387
  n := 32857
  args := [(.slice (some ⟨20816, 0, none⟩) 80 FULL), (.int .i64 53), (.agg #[(.string ⟨#[]⟩), (.int .i64 20), (.int .i64 30000), (.int .i64 500), (.int .i64 500)])]
  pre := [(20816, awb9)]
  v := (.int .i64 30000)
  post := [(20816, awb9)]
  n2 := 33167
  frame := [20871, 24412, 20864, 8377, 8957, 14193, 14198, 14199, 14200, 10227, 10331, 10332, 10333, 10334, 10328, 10236, 10302, 10240, 10295, 10238, 10242, 10296, 10249, 10250, 10245]
def awk45_h : Hook := (fun _ _ _ _ => none)
/-- railplan/railplanref6.limit -/
def awk46 : Cut where
  f := 387
  n := 33167
  args := [(.slice (some ⟨20816, 0, none⟩) 80 FULL), (.int .i64 54), (.agg #[(.string ⟨#[]⟩), (.int .i64 20), (.int .i64 30000), (.int .i64 500), (.int .i64 500)])]
  pre := [(20816, awb9)]
  v := (.int .i64 30000)
  post := [(20816, awb9)]
  n2 := 33477
  frame := [20871, 24412, 20864, 8377, 8957, 14193, 14198, 14199, 14200, 10227, 10331, 10332, 10333, 10334, 10328, 10236, 10302, 10240, 10295, 10238, 10242, 10296, 10249, 10250, 10245]
def awk46_h : Hook := (fun _ _ _ _ => none)
/-- railplan/railplanref6.limit -/
def awk47 : Cut where
  f := 387
  n := 33505
  args := [(.slice (some ⟨20816, 0, none⟩) 80 FULL), (.int .i64 54), (.agg #[(.string ⟨#[]⟩), (.int .i64 20), (.int .i64 30000), (.int .i64 500), (.int .i64 500)])]
  pre := [(20816, awb9)]
  v := (.int .i64 30000)
  post := [(20816, awb9)]
  n2 := 33815
  frame := [20871, 24412, 20864, 8377, 8957, 14193, 14198, 14199, 14200, 10227, 10331, 10332, 10333, 10334, 10328, 10236, 10302, 10240, 10295, 10238, 10242, 10296, 10249, 10250, 10245]
def awk47_h : Hook := (fun _ _ _ _ => none)
/-- railplan/railplanref6.limit -/
def awk48 : Cut where
  f := 387
  n := 33815
  args := [(.slice (some ⟨20816, 0, none⟩) 80 FULL), (.int .i64 55), (.agg #[(.string ⟨#[]⟩), (.int .i64 20), (.int .i64 30000), (.int .i64 500), (.int .i64 500)])]
  pre := [(20816, awb9)]
  v := (.int .i64 30000)
  post := [(20816, awb9)]
  n2 := 34125
  frame := [20871, 24412, 20864, 8377, 8957, 14193, 14198, 14199, 14200, 10227, 10331, 10332, 10333, 10334, 10328, 10236, 10302, 10240, 10295, 10238, 10242, 10296, 10249, 10250, 10245]
def awk48_h : Hook := (fun _ _ _ _ => none)
/-- railplan/railplanref6.limit -/
def awk49 : Cut where
  f := 387
  n := 34153
  args := [(.slice (some ⟨20816, 0, none⟩) 80 FULL), (.int .i64 55), (.agg #[(.string ⟨#[]⟩), (.int .i64 20), (.int .i64 30000), (.int .i64 500), (.int .i64 500)])]
  pre := [(20816, awb9)]
  v := (.int .i64 30000)
  post := [(20816, awb9)]
  n2 := 34463
  frame := [20871, 24412, 20864, 8377, 8957, 14193, 14198, 14199, 14200, 10227, 10331, 10332, 10333, 10334, 10328, 10236, 10302, 10240, 10295, 10238, 10242, 10296, 10249, 10250, 10245]
def awk49_h : Hook := (fun _ _ _ _ => none)
/-- railplan/railplanref6.limit -/
def awk50 : Cut where
  f := 387
  n := 34463
  args := [(.slice (some ⟨20816, 0, none⟩) 80 FULL), (.int .i64 56), (.agg #[(.string ⟨#[]⟩), (.int .i64 20), (.int .i64 30000), (.int .i64 500), (.int .i64 500)])]
  pre := [(20816, awb9)]
  v := (.int .i64 30000)
  post := [(20816, awb9)]
  n2 := 34773
  frame := [20871, 24412, 20864, 8377, 8957, 14193, 14198, 14199, 14200, 10227, 10331, 10332, 10333, 10334, 10328, 10236, 10302, 10240, 10295, 10238, 10242, 10296, 10249, 10250, 10245]
def awk50_h : Hook := (fun _ _ _ _ => none)
/-- railplan/railplanref6.limit -/
def awk51 : Cut where
  f := 387
  n := 34801
  args := [(.slice (some ⟨20816, 0, none⟩) 80 FULL), (.int .i64 56), (.agg #[(.string ⟨#[]⟩), (.int .i64 20), (.int .i64 30000), (.int .i64 500), (.int .i64 500)])]
  pre := [(20816, awb9)]
  v := (.int .i64 30000)
  post := [(20816, awb9)]
  n2 := 35111
  frame := [20871, 24412, 20864, 8377, 8957, 14193, 14198, 14199, 14200, 10227, 10331, 10332, 10333, 10334, 10328, 10236, 10302, 10240, 10295, 10238, 10242, 10296, 10249, 10250, 10245]
def awk51_h : Hook := (fun _ _ _ _ => none)
/-- railplan/railplanref6.limit -/
def awk52 : Cut where
  f := 387
  n := 35111
  args := [(.slice (some ⟨20816, 0, none⟩) 80 FULL), (.int .i64 57), (.agg #[(.string ⟨#[]⟩), (.int .i64 20), (.int .i64 30000), (.int .i64 500), (.int .i64 500)])]
  pre := [(20816, awb9)]
  v := (.int .i64 30000)
  post := [(20816, awb9)]
  n2 := 35421
  frame := [20871, 24412, 20864, 8377, 8957, 14193, 14198, 14199, 14200, 10227, 10331, 10332, 10333, 10334, 10328, 10236, 10302, 10240, 10295, 10238, 10242, 10296, 10249, 10250, 10245]
def awk52_h : Hook := (fun _ _ _ _ => none)
/-- railplan/railplanref6.limit -/
def awk53 : Cut where
  f := 387
  n := 35449
  args := [(.slice (some ⟨20816, 0, none⟩) 80 FULL), (.int .i64 57), (.agg #[(.string ⟨#[]⟩), (.int .i64 20), (.int .i64 30000), (.int .i64 500), (.int .i64 500)])]
  pre := [(20816, awb9)]
  v := (.int .i64 30000)
  post := [(20816, awb9)]
  n2 := 35759
  frame := [20871, 24412, 20864, 8377, 8957, 14193, 14198, 14199, 14200, 10227, 10331, 10332, 10333, 10334, 10328, 10236, 10302, 10240, 10295, 10238, 10242, 10296, 10249, 10250, 10245]
def awk53_h : Hook := (fun _ _ _ _ => none)
/-- railplan/railplanref6.limit -/
def awk54 : Cut where
  f := 387
  n := 35759
  args := [(.slice (some ⟨20816, 0, none⟩) 80 FULL), (.int .i64 58), (.agg #[(.string ⟨#[]⟩), (.int .i64 20), (.int .i64 30000), (.int .i64 500), (.int .i64 500)])]
  pre := [(20816, awb9)]
  v := (.int .i64 30000)
  post := [(20816, awb9)]
  n2 := 36069
  frame := [20871, 24412, 20864, 8377, 8957, 14193, 14198, 14199, 14200, 10227, 10331, 10332, 10333, 10334, 10328, 10236, 10302, 10240, 10295, 10238, 10242, 10296, 10249, 10250, 10245]
def awk54_h : Hook := (fun _ _ _ _ => none)
/-- railplan/railplanref6.limit -/
def awk55 : Cut where
  f := 387
  n := 36097
  args := [(.slice (some ⟨20816, 0, none⟩) 80 FULL), (.int .i64 58), (.agg #[(.string ⟨#[]⟩), (.int .i64 20), (.int .i64 30000), (.int .i64 500), (.int .i64 500)])]
  pre := [(20816, awb9)]
  v := (.int .i64 30000)
  post := [(20816, awb9)]
  n2 := 36407
  frame := [20871, 24412, 20864, 8377, 8957, 14193, 14198, 14199, 14200, 10227, 10331, 10332, 10333, 10334, 10328, 10236, 10302, 10240, 10295, 10238, 10242, 10296, 10249, 10250, 10245]
def awk55_h : Hook := (fun _ _ _ _ => none)
/-- railplan/railplanref6.limit -/
def awk56 : Cut where
  f := 387
  n := 36407
  args := [(.slice (some ⟨20816, 0, none⟩) 80 FULL), (.int .i64 59), (.agg #[(.string ⟨#[]⟩), (.int .i64 20), (.int .i64 30000), (.int .i64 500), (.int .i64 500)])]
  pre := [(20816, awb9)]
  v := (.int .i64 30000)
  post := [(20816, awb9)]
  n2 := 36717
  frame := [20871, 24412, 20864, 8377, 8957, 14193, 14198, 14199, 14200, 10227, 10331, 10332, 10333, 10334, 10328, 10236, 10302, 10240, 10295, 10238, 10242, 10296, 10249, 10250, 10245]
def awk56_h : Hook := (fun _ _ _ _ => none)
/-- railplan/railplanref6.limit -/
def awk57 : Cut where
  f := 387
  n := 36745
  args := [(.slice (some ⟨20816, 0, none⟩) 80 FULL), (.int .i64 59), (.agg #[(.string ⟨#[]⟩), (.int .i64 20), (.int .i64 30000), (.int .i64 500), (.int .i64 500)])]
  pre := [(20816, awb9)]
  v := (.int .i64 30000)
  post := [(20816, awb9)]
  n2 := 37055
  frame := [20871, 24412, 20864, 8377, 8957, 14193, 14198, 14199, 14200, 10227, 10331, 10332, 10333, 10334, 10328, 10236, 10302, 10240, 10295, 10238, 10242, 10296, 10249, 10250, 10245]
def awk57_h : Hook := (fun _ _ _ _ => none)
/-- railplan/railplanref6.limit -/
def awk58 : Cut where
  f := 387
  n := 37055
  args := [(.slice (some ⟨20816, 0, none⟩) 80 FULL), (.int .i64 60), (.agg #[(.string ⟨#[]⟩), (.int .i64 20), (.int .i64 30000), (.int .i64 500), (.int .i64 500)])]
  pre := [(20816, awb9)]
  v := (.int .i64 30000)
  post := [(20816, awb9)]
  n2 := 37365
  frame := [20871, 24412, 20864, 8377, 8957, 14193, 14198, 14199, 14200, 10227, 10331, 10332, 10333, 10334, 10328, 10236, 10302, 10240, 10295, 10238, 10242, 10296, 10249, 10250, 10245]
def awk58_h : Hook := (fun _ _ _ _ => none)
/-- railplan/railplanref6.limit -/
def awk59 : Cut where
  f := 387
  n := 37393
  args := [(.slice (some ⟨20816, 0, none⟩) 80 FULL), (.int .i64 60), (.agg #[(.string ⟨#[]⟩), (.int .i64 20), (.int .i64 30000), (.int .i64 500), (.int .i64 500)])]
  pre := [(20816, awb9)]
  v := (.int .i64 30000)
  post := [(20816, awb9)]
  n2 := 37703
  frame := [20871, 24412, 20864, 8377, 8957, 14193, 14198, 14199, 14200, 10227, 10331, 10332, 10333, 10334, 10328, 10236, 10302, 10240, 10295, 10238, 10242, 10296, 10249, 10250, 10245]
def awk59_h : Hook := (fun _ _ _ _ => none)
/-- railplan/railplanref6.limit -/
def awk60 : Cut where
  f := 387
  n := 37703
  args := [(.slice (some ⟨20816, 0, none⟩) 80 FULL), (.int .i64 61), (.agg #[(.string ⟨#[]⟩), (.int .i64 20), (.int .i64 30000), (.int .i64 500), (.int .i64 500)])]
  pre := [(20816, awb9)]
  v := (.int .i64 30000)
  post := [(20816, awb9)]
  n2 := 38013
  frame := [20871, 24412, 20864, 8377, 8957, 14193, 14198, 14199, 14200, 10227, 10331, 10332, 10333, 10334, 10328, 10236, 10302, 10240, 10295, 10238, 10242, 10296, 10249, 10250, 10245]
def awk60_h : Hook := (fun _ _ _ _ => none)
/-- railplan/railplanref6.limit -/
def awk61 : Cut where
  f := 387
  n := 38041
  args := [(.slice (some ⟨20816, 0, none⟩) 80 FULL), (.int .i64 61), (.agg #[(.string ⟨#[]⟩), (.int .i64 20), (.int .i64 30000), (.int .i64 500), (.int .i64 500)])]
  pre := [(20816, awb9)]
  v := (.int .i64 30000)
  post := [(20816, awb9)]
  n2 := 38351
  frame := [20871, 24412, 20864, 8377, 8957, 14193, 14198, 14199, 14200, 10227, 10331, 10332, 10333, 10334, 10328, 10236, 10302, 10240, 10295, 10238, 10242, 10296, 10249, 10250, 10245]
def awk61_h : Hook := (fun _ _ _ _ => none)
/-- railplan/railplanref6.limit -/
def awk62 : Cut where
  f := 387
  n := 38351
  args := [(.slice (some ⟨20816, 0, none⟩) 80 FULL), (.int .i64 62), (.agg #[(.string ⟨#[]⟩), (.int .i64 20), (.int .i64 30000), (.int .i64 500), (.int .i64 500)])]
  pre := [(20816, awb9)]
  v := (.int .i64 30000)
  post := [(20816, awb9)]
  n2 := 38661
  frame := [20871, 24412, 20864, 8377, 8957, 14193, 14198, 14199, 14200, 10227, 10331, 10332, 10333, 10334, 10328, 10236, 10302, 10240, 10295, 10238, 10242, 10296, 10249, 10250, 10245]
def awk62_h : Hook := (fun _ _ _ _ => none)
/-- railplan/railplanref6.limit -/
def awk63 : Cut where
  f := 387
  n := 38689
  args := [(.slice (some ⟨20816, 0, none⟩) 80 FULL), (.int .i64 62), (.agg #[(.string ⟨#[]⟩), (.int .i64 20), (.int .i64 30000), (.int .i64 500), (.int .i64 500)])]
  pre := [(20816, awb9)]
  v := (.int .i64 30000)
  post := [(20816, awb9)]
  n2 := 38999
  frame := [20871, 24412, 20864, 8377, 8957, 14193, 14198, 14199, 14200, 10227, 10331, 10332, 10333, 10334, 10328, 10236, 10302, 10240, 10295, 10238, 10242, 10296, 10249, 10250, 10245]
def awk63_h : Hook := (fun _ _ _ _ => none)
/-- railplan/railplanref6.limit -/
def awk64 : Cut where
  f := 387
  n := 38999
  args := [(.slice (some ⟨20816, 0, none⟩) 80 FULL), (.int .i64 63), (.agg #[(.string ⟨#[]⟩), (.int .i64 20), (.int .i64 30000), (.int .i64 500), (.int .i64 500)])]
  pre := [(20816, awb9)]
  v := (.int .i64 30000)
  post := [(20816, awb9)]
  n2 := 39309
  frame := [20871, 24412, 20864, 8377, 8957, 14193, 14198, 14199, 14200, 10227, 10331, 10332, 10333, 10334, 10328, 10236, 10302, 10240, 10295, 10238, 10242, 10296, 10249, 10250, 10245]
def awk64_h : Hook := (fun _ _ _ _ => none)
/-- railplan/railplanref6.limit -/
def awk65 : Cut where
  f := 387
  n := 39337
  args := [(.slice (some ⟨20816, 0, none⟩) 80 FULL), (.int .i64 63), (.agg #[(.string ⟨#[]⟩), (.int .i64 20), (.int .i64 30000), (.int .i64 500), (.int .i64 500)])]
  pre := [(20816, awb9)]
  v := (.int .i64 30000)
  post := [(20816, awb9)]
  n2 := 39647
  frame := [20871, 24412, 20864, 8377, 8957, 14193, 14198, 14199, 14200, 10227, 10331, 10332, 10333, 10334, 10328, 10236, 10302, 10240, 10295, 10238, 10242, 10296, 10249, 10250, 10245]
def awk65_h : Hook := (fun _ _ _ _ => none)
/-- railplan/railplanref6.limit -/
def awk66 : Cut where
  f := 387
  n := 39647
  args := [(.slice (some ⟨20816, 0, none⟩) 80 FULL), (.int .i64 64), (.agg #[(.string ⟨#[]⟩), (.int .i64 20), (.int .i64 30000), (.int .i64 500), (.int .i64 500)])]
  pre := [(20816, awb9)]
  v := (.int .i64 30000)
  post := [(20816, awb9)]
  n2 := 39957
  frame := [20871, 24412, 20864, 8377, 8957, 14193, 14198, 14199, 14200, 10227, 10331, 10332, 10333, 10334, 10328, 10236, 10302, 10240, 10295, 10238, 10242, 10296, 10249, 10250, 10245]
def awk66_h : Hook := (fun _ _ _ _ => none)
/-- railplan/railplanref6.limit -/
def awk67 : Cut where
  f := 387
  n := 39985
  args := [(.slice (some ⟨20816, 0, none⟩) 80 FULL), (.int .i64 64), (.agg #[(.string ⟨#[]⟩), (.int .i64 20), (.int .i64 30000), (.int .i64 500), (.int .i64 500)])]
  pre := [(20816, awb9)]
  v := (.int .i64 30000)
  post := [(20816, awb9)]
  n2 := 40295
  frame := [20871, 24412, 20864, 8377, 8957, 14193, 14198, 14199, 14200, 10227, 10331, 10332, 10333, 10334, 10328, 10236, 10302, 10240, 10295, 10238, 10242, 10296, 10249, 10250, 10245]
def awk67_h : Hook := (fun _ _ _ _ => none)
/-- railplan/railplanref6.limit -/
def awk68 : Cut where
  f := 387
  n := 40295
  args := [(.slice (some ⟨20816, 0, none⟩) 80 FULL), (.int .i64 65), (.agg #[(.string ⟨#[]⟩), (.int .i64 20), (.int .i64 30000), (.int .i64 500), (.int .i64 500)])]
  pre := [(20816, awb9)]
  v := (.int .i64 30000)
  post := [(20816, awb9)]
  n2 := 40605
  frame := [20871, 24412, 20864, 8377, 8957, 14193, 14198, 14199, 14200, 10227, 10331, 10332, 10333, 10334, 10328, 10236, 10302, 10240, 10295, 10238, 10242, 10296, 10249, 10250, 10245]
def awk68_h : Hook := (fun _ _ _ _ => none)
/-- railplan/railplanref6.limit -/
def awk69 : Cut where
  f := 387
  n := 40633
  args := [(.slice (some ⟨20816, 0, none⟩) 80 FULL), (.int .i64 65), (.agg #[(.string ⟨#[]⟩), (.int .i64 20), (.int .i64 30000), (.int .i64 500), (.int .i64 500)])]
  pre := [(20816, awb9)]
  v := (.int .i64 30000)
  post := [(20816, awb9)]
  n2 := 40943
  frame := [20871, 24412, 20864, 8377, 8957, 14193, 14198, 14199, 14200, 10227, 10331, 10332, 10333, 10334, 10328, 10236, 10302, 10240, 10295, 10238, 10242, 10296, 10249, 10250, 10245]
def awk69_h : Hook := (fun _ _ _ _ => none)
/-- railplan/railplanref6.limit -/
def awk70 : Cut where
  f := 387
  n := 40943
  args := [(.slice (some ⟨20816, 0, none⟩) 80 FULL), (.int .i64 66), (.agg #[(.string ⟨#[]⟩), (.int .i64 20), (.int .i64 30000), (.int .i64 500), (.int .i64 500)])]
  pre := [(20816, awb9)]
  v := (.int .i64 30000)
  post := [(20816, awb9)]
  n2 := 41253
  frame := [20871, 24412, 20864, 8377, 8957, 14193, 14198, 14199, 14200, 10227, 10331, 10332, 10333, 10334, 10328, 10236, 10302, 10240, 10295, 10238, 10242, 10296, 10249, 10250, 10245]
def awk70_h : Hook := (fun _ _ _ _ => none)
/-- railplan/railplanref6.limit -/
def awk71 : Cut where
  f := 387
  n := 41281
  args := [(.slice (some ⟨20816, 0, none⟩) 80 FULL), (.int .i64 66), (.agg #[(.string ⟨#[]⟩), (.int .i64 20), (.int .i64 30000), (.int .i64 500), (.int .i64 500)])]
  pre := [(20816, awb9)]
  v := (.int .i64 30000)
  post := [(20816, awb9)]
  n2 := 41591
  frame := [20871, 24412, 20864, 8377, 8957, 14193, 14198, 14199, 14200, 10227, 10331, 10332, 10333, 10334, 10328, 10236, 10302, 10240, 10295, 10238, 10242, 10296, 10249, 10250, 10245]
def awk71_h : Hook := (fun _ _ _ _ => none)
/-- railplan/railplanref6.limit -/
def awk72 : Cut where
  f := 387
  n := 41591
  args := [(.slice (some ⟨20816, 0, none⟩) 80 FULL), (.int .i64 67), (.agg #[(.string ⟨#[]⟩), (.int .i64 20), (.int .i64 30000), (.int .i64 500), (.int .i64 500)])]
  pre := [(20816, awb9)]
  v := (.int .i64 30000)
  post := [(20816, awb9)]
  n2 := 41901
  frame := [20871, 24412, 20864, 8377, 8957, 14193, 14198, 14199, 14200, 10227, 10331, 10332, 10333, 10334, 10328, 10236, 10302, 10240, 10295, 10238, 10242, 10296, 10249, 10250, 10245]
def awk72_h : Hook := (fun _ _ _ _ => none)
/-- railplan/railplanref6.limit -/
def awk73 : Cut where
  f := 387
  n := 41929
  args := [(.slice (some ⟨20816, 0, none⟩) 80 FULL), (.int .i64 67), (.agg #[(.string ⟨#[]⟩), (.int .i64 20), (.int .i64 30000), (.int .i64 500), (.int .i64 500)])]
  pre := [(20816, awb9)]
  v := (.int .i64 30000)
  post := [(20816, awb9)]
  n2 := 42239
  frame := [20871, 24412, 20864, 8377, 8957, 14193, 14198, 14199, 14200, 10227, 10331, 10332, 10333, 10334, 10328, 10236, 10302, 10240, 10295, 10238, 10242, 10296, 10249, 10250, 10245]
def awk73_h : Hook := (fun _ _ _ _ => none)
/-- railplan/railplanref6.limit -/
def awk74 : Cut where
  f := 387
  n := 42239
  args := [(.slice (some ⟨20816, 0, none⟩) 80 FULL), (.int .i64 68), (.agg #[(.string ⟨#[]⟩), (.int .i64 20), (.int .i64 30000), (.int .i64 500), (.int .i64 500)])]
  pre := [(20816, awb9)]
  v := (.int .i64 30000)
  post := [(20816, awb9)]
  n2 := 42549
  frame := [20871, 24412, 20864, 8377, 8957, 14193, 14198, 14199, 14200, 10227, 10331, 10332, 10333, 10334, 10328, 10236, 10302, 10240, 10295, 10238, 10242, 10296, 10249, 10250, 10245]
def awk74_h : Hook := (fun _ _ _ _ => none)
/-- railplan/railplanref6.limit -/
def awk75 : Cut where
  f := 387
  n := 42577
  args := [(.slice (some ⟨20816, 0, none⟩) 80 FULL), (.int .i64 68), (.agg #[(.string ⟨#[]⟩), (.int .i64 20), (.int .i64 30000), (.int .i64 500), (.int .i64 500)])]
  pre := [(20816, awb9)]
  v := (.int .i64 30000)
  post := [(20816, awb9)]
  n2 := 42887
  frame := [20871, 24412, 20864, 8377, 8957, 14193, 14198, 14199, 14200, 10227, 10331, 10332, 10333, 10334, 10328, 10236, 10302, 10240, 10295, 10238, 10242, 10296, 10249, 10250, 10245]
def awk75_h : Hook := (fun _ _ _ _ => none)
/-- railplan/railplanref6.limit -/
def awk76 : Cut where
  f := 387
  n := 42887
  args := [(.slice (some ⟨20816, 0, none⟩) 80 FULL), (.int .i64 69), (.agg #[(.string ⟨#[]⟩), (.int .i64 20), (.int .i64 30000), (.int .i64 500), (.int .i64 500)])]
  pre := [(20816, awb9)]
  v := (.int .i64 30000)
  post := [(20816, awb9)]
  n2 := 43197
  frame := [20871, 24412, 20864, 8377, 8957, 14193, 14198, 14199, 14200, 10227, 10331, 10332, 10333, 10334, 10328, 10236, 10302, 10240, 10295, 10238, 10242, 10296, 10249, 10250, 10245]
def awk76_h : Hook := (fun _ _ _ _ => none)
/-- railplan/railplanref6.limit -/
def awk77 : Cut where
  f := 387
  n := 43225
  args := [(.slice (some ⟨20816, 0, none⟩) 80 FULL), (.int .i64 69), (.agg #[(.string ⟨#[]⟩), (.int .i64 20), (.int .i64 30000), (.int .i64 500), (.int .i64 500)])]
  pre := [(20816, awb9)]
  v := (.int .i64 30000)
  post := [(20816, awb9)]
  n2 := 43535
  frame := [20871, 24412, 20864, 8377, 8957, 14193, 14198, 14199, 14200, 10227, 10331, 10332, 10333, 10334, 10328, 10236, 10302, 10240, 10295, 10238, 10242, 10296, 10249, 10250, 10245]
def awk77_h : Hook := (fun _ _ _ _ => none)
/-- railplan/railplanref6.limit -/
def awk78 : Cut where
  f := 387
  n := 43535
  args := [(.slice (some ⟨20816, 0, none⟩) 80 FULL), (.int .i64 70), (.agg #[(.string ⟨#[]⟩), (.int .i64 20), (.int .i64 30000), (.int .i64 500), (.int .i64 500)])]
  pre := [(20816, awb9)]
  v := (.int .i64 30000)
  post := [(20816, awb9)]
  n2 := 43845
  frame := [20871, 24412, 20864, 8377, 8957, 14193, 14198, 14199, 14200, 10227, 10331, 10332, 10333, 10334, 10328, 10236, 10302, 10240, 10295, 10238, 10242, 10296, 10249, 10250, 10245]
def awk78_h : Hook := (fun _ _ _ _ => none)
/-- railplan/railplanref6.limit -/
def awk79 : Cut where
  f := 387
  n := 43873
  args := [(.slice (some ⟨20816, 0, none⟩) 80 FULL), (.int .i64 70), (.agg #[(.string ⟨#[]⟩), (.int .i64 20), (.int .i64 30000), (.int .i64 500), (.int .i64 500)])]
  pre := [(20816, awb9)]
  v := (.int .i64 30000)
  post := [(20816, awb9)]
  n2 := 44183
  frame := [20871, 24412, 20864, 8377, 8957, 14193, 14198, 14199, 14200, 10227, 10331, 10332, 10333, 10334, 10328, 10236, 10302, 10240, 10295, 10238, 10242, 10296, 10249, 10250, 10245]
def awk79_h : Hook := (fun _ _ _ _ => none)
/-- railplan/railplanref6.limit -/
def awk80 : Cut where
  f := 387
  n := 44183
  args := [(.slice (some ⟨20816, 0, none⟩) 80 FULL), (.int .i64 71), (.agg #[(.string ⟨#[]⟩), (.int .i64 20), (.int .i64 30000), (.int .i64 500), (.int .i64 500)])]
  pre := [(20816, awb9)]
  v := (.int .i64 30000)
  post := [(20816, awb9)]
  n2 := 44493
  frame := [20871, 24412, 20864, 8377, 8957, 14193, 14198, 14199, 14200, 10227, 10331, 10332, 10333, 10334, 10328, 10236, 10302, 10240, 10295, 10238, 10242, 10296, 10249, 10250, 10245]
def awk80_h : Hook := (fun _ _ _ _ => none)
/-- railplan/railplanref6.limit -/
def awk81 : Cut where
  f := 387
  n := 44521
  args := [(.slice (some ⟨20816, 0, none⟩) 80 FULL), (.int .i64 71), (.agg #[(.string ⟨#[]⟩), (.int .i64 20), (.int .i64 30000), (.int .i64 500), (.int .i64 500)])]
  pre := [(20816, awb9)]
  v := (.int .i64 30000)
  post := [(20816, awb9)]
  n2 := 44831
  frame := [20871, 24412, 20864, 8377, 8957, 14193, 14198, 14199, 14200, 10227, 10331, 10332, 10333, 10334, 10328, 10236, 10302, 10240, 10295, 10238, 10242, 10296, 10249, 10250, 10245]
def awk81_h : Hook := (fun _ _ _ _ => none)
/-- railplan/railplanref6.limit -/
def awk82 : Cut where
  f := 387
  n := 44831
  args := [(.slice (some ⟨20816, 0, none⟩) 80 FULL), (.int .i64 72), (.agg #[(.string ⟨#[]⟩), (.int .i64 20), (.int .i64 30000), (.int .i64 500), (.int .i64 500)])]
  pre := [(20816, awb9)]
  v := (.int .i64 30000)
  post := [(20816, awb9)]
  n2 := 45141
  frame := [20871, 24412, 20864, 8377, 8957, 14193, 14198, 14199, 14200, 10227, 10331, 10332, 10333, 10334, 10328, 10236, 10302, 10240, 10295, 10238, 10242, 10296, 10249, 10250, 10245]
def awk82_h : Hook := (fun _ _ _ _ => none)
/-- railplan/railplanref6.limit -/
def awk83 : Cut where
  f := 387
  n := 45169
  args := [(.slice (some ⟨20816, 0, none⟩) 80 FULL), (.int .i64 72), (.agg #[(.string ⟨#[]⟩), (.int .i64 20), (.int .i64 30000), (.int .i64 500), (.int .i64 500)])]
  pre := [(20816, awb9)]
  v := (.int .i64 30000)
  post := [(20816, awb9)]
  n2 := 45479
  frame := [20871, 24412, 20864, 8377, 8957, 14193, 14198, 14199, 14200, 10227, 10331, 10332, 10333, 10334, 10328, 10236, 10302, 10240, 10295, 10238, 10242, 10296, 10249, 10250, 10245]
def awk83_h : Hook := (fun _ _ _ _ => none)
/-- railplan/railplanref6.limit -/
def awk84 : Cut where
  f := 387
  n := 45479
  args := [(.slice (some ⟨20816, 0, none⟩) 80 FULL), (.int .i64 73), (.agg #[(.string ⟨#[]⟩), (.int .i64 20), (.int .i64 30000), (.int .i64 500), (.int .i64 500)])]
  pre := [(20816, awb9)]
  v := (.int .i64 30000)
  post := [(20816, awb9)]
  n2 := 45789
  frame := [20871, 24412, 20864, 8377, 8957, 14193, 14198, 14199, 14200, 10227, 10331, 10332, 10333, 10334, 10328, 10236, 10302, 10240, 10295, 10238, 10242, 10296, 10249, 10250, 10245]
def awk84_h : Hook := (fun _ _ _ _ => none)
/-- railplan/railplanref6.limit -/
def awk85 : Cut where
  f := 387
  n := 45817
  args := [(.slice (some ⟨20816, 0, none⟩) 80 FULL), (.int .i64 73), (.agg #[(.string ⟨#[]⟩), (.int .i64 20), (.int .i64 30000), (.int .i64 500), (.int .i64 500)])]
  pre := [(20816, awb9)]
  v := (.int .i64 30000)
  post := [(20816, awb9)]
  n2 := 46127
  frame := [20871, 24412, 20864, 8377, 8957, 14193, 14198, 14199, 14200, 10227, 10331, 10332, 10333, 10334, 10328, 10236, 10302, 10240, 10295, 10238, 10242, 10296, 10249, 10250, 10245]
def awk85_h : Hook := (fun _ _ _ _ => none)
/-- railplan/railplanref6.limit -/
def awk86 : Cut where
  f := 387
  n := 46127
  args := [(.slice (some ⟨20816, 0, none⟩) 80 FULL), (.int .i64 74), (.agg #[(.string ⟨#[]⟩), (.int .i64 20), (.int .i64 30000), (.int .i64 500), (.int .i64 500)])]
  pre := [(20816, awb9)]
  v := (.int .i64 30000)
  post := [(20816, awb9)]
  n2 := 46437
  frame := [20871, 24412, 20864, 8377, 8957, 14193, 14198, 14199, 14200, 10227, 10331, 10332, 10333, 10334, 10328, 10236, 10302, 10240, 10295, 10238, 10242, 10296, 10249, 10250, 10245]
def awk86_h : Hook := (fun _ _ _ _ => none)
/-- railplan/railplanref6.limit -/
def awk87 : Cut where
  f := 387
  n := 46465
  args := [(.slice (some ⟨20816, 0, none⟩) 80 FULL), (.int .i64 74), (.agg #[(.string ⟨#[]⟩), (.int .i64 20), (.int .i64 30000), (.int .i64 500), (.int .i64 500)])]
  pre := [(20816, awb9)]
  v := (.int .i64 30000)
  post := [(20816, awb9)]
  n2 := 46775
  frame := [20871, 24412, 20864, 8377, 8957, 14193, 14198, 14199, 14200, 10227, 10331, 10332, 10333, 10334, 10328, 10236, 10302, 10240, 10295, 10238, 10242, 10296, 10249, 10250, 10245]
def awk87_h : Hook := (fun _ _ _ _ => none)
/-- railplan/railplanref6.limit -/
def awk88 : Cut where
  f := 387
  n := 46775
  args := [(.slice (some ⟨20816, 0, none⟩) 80 FULL), (.int .i64 75), (.agg #[(.string ⟨#[]⟩), (.int .i64 20), (.int .i64 30000), (.int .i64 500), (.int .i64 500)])]
  pre := [(20816, awb9)]
  v := (.int .i64 30000)
  post := [(20816, awb9)]
  n2 := 47085
  frame := [20871, 24412, 20864, 8377, 8957, 14193, 14198, 14199, 14200, 10227, 10331, 10332, 10333, 10334, 10328, 10236, 10302, 10240, 10295, 10238, 10242, 10296, 10249, 10250, 10245]
def awk88_h : Hook := (fun _ _ _ _ => none)
/-- railplan/railplanref6.limit -/
def awk89 : Cut where
  f := 387
  n := 47113
  args := [(.slice (some ⟨20816, 0, none⟩) 80 FULL), (.int .i64 75), (.agg #[(.string ⟨#[]⟩), (.int .i64 20), (.int .i64 30000), (.int .i64 500), (.int .i64 500)])]
  pre := [(20816, awb9)]
  v := (.int .i64 30000)
  post := [(20816, awb9)]
  n2 := 47423
  frame := [20871, 24412, 20864, 8377, 8957, 14193, 14198, 14199, 14200, 10227, 10331, 10332, 10333, 10334, 10328, 10236, 10302, 10240, 10295, 10238, 10242, 10296, 10249, 10250, 10245]
def awk89_h : Hook := (fun _ _ _ _ => none)
/-- railplan/railplanref6.limit -/
def awk90 : Cut where
  f := 387
  n := 47423
  args := [(.slice (some ⟨20816, 0, none⟩) 80 FULL), (.int .i64 76), (.agg #[(.string ⟨#[]⟩), (.int .i64 20), (.int .i64 30000), (.int .i64 500), (.int .i64 500)])]
  pre := [(20816, awb9)]
  v := (.int .i64 30000)
  post := [(20816, awb9)]
  n2 := 47733
  frame := [20871, 24412, 20864, 8377, 8957, 14193, 14198, 14199, 14200, 10227, 10331, 10332, 10333, 10334, 10328, 10236, 10302, 10240, 10295, 10238, 10242, 10296, 10249, 10250, 10245]
def awk90_h : Hook := (fun _ _ _ _ => none)
/-- railplan/railplanref6.limit -/
def awk91 : Cut where
  f := 387
  n := 47761
  args := [(.slice (some ⟨20816, 0, none⟩) 80 FULL), (.int .i64 76), (.agg #[(.string ⟨#[]⟩), (.int .i64 20), (.int .i64 30000), (.int .i64 500), (.int .i64 500)])]
  pre := [(20816, awb9)]
  v := (.int .i64 30000)
  post := [(20816, awb9)]
  n2 := 48071
  frame := [20871, 24412, 20864, 8377, 8957, 14193, 14198, 14199, 14200, 10227, 10331, 10332, 10333, 10334, 10328, 10236, 10302, 10240, 10295, 10238, 10242, 10296, 10249, 10250, 10245]
def awk91_h : Hook := (fun _ _ _ _ => none)
/-- railplan/railplanref6.limit -/
def awk92 : Cut where
  f := 387
  n := 48071
  args := [(.slice (some ⟨20816, 0, none⟩) 80 FULL), (.int .i64 77), (.agg #[(.string ⟨#[]⟩), (.int .i64 20), (.int .i64 30000), (.int .i64 500), (.int .i64 500)])]
  pre := [(20816, awb9)]
  v := (.int .i64 30000)
  post := [(20816, awb9)]
  n2 := 48381
  frame := [20871, 24412, 20864, 8377, 8957, 14193, 14198, 14199, 14200, 10227, 10331, 10332, 10333, 10334, 10328, 10236, 10302, 10240, 10295, 10238, 10242, 10296, 10249, 10250, 10245]
def awk92_h : Hook := (fun _ _ _ _ => none)
/-- railplan/railplanref6.limit -/
def awk93 : Cut where
  f := 387
  n := 48409
  args := [(.slice (some ⟨20816, 0, none⟩) 80 FULL), (.int .i64 77), (.agg #[(.string ⟨#[]⟩), (.int .i64 20), (.int .i64 30000), (.int .i64 500), (.int .i64 500)])]
  pre := [(20816, awb9)]
  v := (.int .i64 30000)
  post := [(20816, awb9)]
  n2 := 48719
  frame := [20871, 24412, 20864, 8377, 8957, 14193, 14198, 14199, 14200, 10227, 10331, 10332, 10333, 10334, 10328, 10236, 10302, 10240, 10295, 10238, 10242, 10296, 10249, 10250, 10245]
def awk93_h : Hook := (fun _ _ _ _ => none)
/-- railplan/railplanref6.limit -/
def awk94 : Cut where
  f := 387
  n := 48719
  args := [(.slice (some ⟨20816, 0, none⟩) 80 FULL), (.int .i64 78), (.agg #[(.string ⟨#[]⟩), (.int .i64 20), (.int .i64 30000), (.int .i64 500), (.int .i64 500)])]
  pre := [(20816, awb9)]
  v := (.int .i64 30000)
  post := [(20816, awb9)]
  n2 := 49029
  frame := [20871, 24412, 20864, 8377, 8957, 14193, 14198, 14199, 14200, 10227, 10331, 10332, 10333, 10334, 10328, 10236, 10302, 10240, 10295, 10238, 10242, 10296, 10249, 10250, 10245]
def awk94_h : Hook := (fun _ _ _ _ => none)
/-- railplan/railplanref6.limit -/
def awk95 : Cut where
  f := 387
  n := 49057
  args := [(.slice (some ⟨20816, 0, none⟩) 80 FULL), (.int .i64 78), (.agg #[(.string ⟨#[]⟩), (.int .i64 20), (.int .i64 30000), (.int .i64 500), (.int .i64 500)])]
  pre := [(20816, awb9)]
  v := (.int .i64 30000)
  post := [(20816, awb9)]
  n2 := 49367
  frame := [20871, 24412, 20864, 8377, 8957, 14193, 14198, 14199, 14200, 10227, 10331, 10332, 10333, 10334, 10328, 10236, 10302, 10240, 10295, 10238, 10242, 10296, 10249, 10250, 10245]
def awk95_h : Hook := (fun _ _ _ _ => none)
/-- railplan/railplanref6.limit -/
def awk96 : Cut where
  f := 387
  n := 49367
  args := [(.slice (some ⟨20816, 0, none⟩) 80 FULL), (.int .i64 79), (.agg #[(.string ⟨#[]⟩), (.int .i64 20), (.int .i64 30000), (.int .i64 500), (.int .i64 500)])]
  pre := [(20816, awb9)]
  v := (.int .i64 30000)
  post := [(20816, awb9)]
  n2 := 49677
  frame := [20871, 24412, 20864, 8377, 8957, 14193, 14198, 14199, 14200, 10227, 10331, 10332, 10333, 10334, 10328, 10236, 10302, 10240, 10295, 10238, 10242, 10296, 10249, 10250, 10245]
def awk96_h : Hook := (fun _ _ _ _ => none)
/-- railplan/railplanref1.Sqrt -/
def awk97 : Cut where
  f := 390
  n := 52928
  args := [(.int .i64 10000000)]
  pre := []
  v := (.int .i64 3162)
  post := []
  n2 := 53475
  frame := [20816, 20871, 24412, 20864, 8377, 8957, 14193, 14198, 14199, 14200, 10227, 10331, 10332, 10333, 10334, 10328, 10236, 10302, 10240, 10295, 10238, 10242, 10296, 10249, 10250, 10245]
def awk97_h : Hook := (fun _ _ _ _ => none)
/-- railplan/railplanref1.Sqrt -/
def awk98 : Cut where
  f := 390
  n := 53490
  args := [(.int .i64 20000000)]
  pre := []
  v := (.int .i64 4472)
  post := []
  n2 := 54036
  frame := [20816, 20871, 24412, 20864, 8377, 8957, 14193, 14198, 14199, 14200, 10227, 10331, 10332, 10333, 10334, 10328, 10236, 10302, 10240, 10295, 10238, 10242, 10296, 10249, 10250, 10245]
def awk98_h : Hook := (fun _ _ _ _ => none)
/-- railplan/railplanref1.Sqrt -/
def awk99 : Cut where
  f := 390
  n := 54051
  args := [(.int .i64 30000000)]
  pre := []
  v := (.int .i64 5477)
  post := []
  n2 := 54582
  frame := [20816, 20871, 24412, 20864, 8377, 8957, 14193, 14198, 14199, 14200, 10227, 10331, 10332, 10333, 10334, 10328, 10236, 10302, 10240, 10295, 10238, 10242, 10296, 10249, 10250, 10245]
def awk99_h : Hook := (fun _ _ _ _ => none)
/-- railplan/railplanref1.Sqrt -/
def awk100 : Cut where
  f := 390
  n := 54597
  args := [(.int .i64 40000000)]
  pre := []
  v := (.int .i64 6324)
  post := []
  n2 := 55144
  frame := [20816, 20871, 24412, 20864, 8377, 8957, 14193, 14198, 14199, 14200, 10227, 10331, 10332, 10333, 10334, 10328, 10236, 10302, 10240, 10295, 10238, 10242, 10296, 10249, 10250, 10245]
def awk100_h : Hook := (fun _ _ _ _ => none)
/-- railplan/railplanref1.Sqrt -/
def awk101 : Cut where
  f := 390
  n := 55159
  args := [(.int .i64 50000000)]
  pre := []
  v := (.int .i64 7071)
  post := []
  n2 := 55690
  frame := [20816, 20871, 24412, 20864, 8377, 8957, 14193, 14198, 14199, 14200, 10227, 10331, 10332, 10333, 10334, 10328, 10236, 10302, 10240, 10295, 10238, 10242, 10296, 10249, 10250, 10245]
def awk101_h : Hook := (fun _ _ _ _ => none)
/-- railplan/railplanref1.Sqrt -/
def awk102 : Cut where
  f := 390
  n := 55705
  args := [(.int .i64 60000000)]
  pre := []
  v := (.int .i64 7745)
  post := []
  n2 := 56235
  frame := [20816, 20871, 24412, 20864, 8377, 8957, 14193, 14198, 14199, 14200, 10227, 10331, 10332, 10333, 10334, 10328, 10236, 10302, 10240, 10295, 10238, 10242, 10296, 10249, 10250, 10245]
def awk102_h : Hook := (fun _ _ _ _ => none)
/-- railplan/railplanref1.Sqrt -/
def awk103 : Cut where
  f := 390
  n := 56250
  args := [(.int .i64 70000000)]
  pre := []
  v := (.int .i64 8366)
  post := []
  n2 := 56796
  frame := [20816, 20871, 24412, 20864, 8377, 8957, 14193, 14198, 14199, 14200, 10227, 10331, 10332, 10333, 10334, 10328, 10236, 10302, 10240, 10295, 10238, 10242, 10296, 10249, 10250, 10245]
def awk103_h : Hook := (fun _ _ _ _ => none)
/-- railplan/railplanref1.Sqrt -/
def awk104 : Cut where
  f := 390
  n := 56811
  args := [(.int .i64 80000000)]
  pre := []
  v := (.int .i64 8944)
  post := []
  n2 := 57341
  frame := [20816, 20871, 24412, 20864, 8377, 8957, 14193, 14198, 14199, 14200, 10227, 10331, 10332, 10333, 10334, 10328, 10236, 10302, 10240, 10295, 10238, 10242, 10296, 10249, 10250, 10245]
def awk104_h : Hook := (fun _ _ _ _ => none)
/-- railplan/railplanref1.Sqrt -/
def awk105 : Cut where
  f := 390
  n := 57356
  args := [(.int .i64 90000000)]
  pre := []
  v := (.int .i64 9486)
  post := []
  n2 := 57902
  frame := [20816, 20871, 24412, 20864, 8377, 8957, 14193, 14198, 14199, 14200, 10227, 10331, 10332, 10333, 10334, 10328, 10236, 10302, 10240, 10295, 10238, 10242, 10296, 10249, 10250, 10245]
def awk105_h : Hook := (fun _ _ _ _ => none)
/-- railplan/railplanref1.Sqrt -/
def awk106 : Cut where
  f := 390
  n := 57917
  args := [(.int .i64 100000000)]
  pre := []
  v := (.int .i64 10000)
  post := []
  n2 := 58448
  frame := [20816, 20871, 24412, 20864, 8377, 8957, 14193, 14198, 14199, 14200, 10227, 10331, 10332, 10333, 10334, 10328, 10236, 10302, 10240, 10295, 10238, 10242, 10296, 10249, 10250, 10245]
def awk106_h : Hook := (fun _ _ _ _ => none)
/-- railplan/railplanref1.Sqrt -/
def awk107 : Cut where
  f := 390
  n := 58463
  args := [(.int .i64 110000000)]
  pre := []
  v := (.int .i64 10488)
  post := []
  n2 := 59007
  frame := [20816, 20871, 24412, 20864, 8377, 8957, 14193, 14198, 14199, 14200, 10227, 10331, 10332, 10333, 10334, 10328, 10236, 10302, 10240, 10295, 10238, 10242, 10296, 10249, 10250, 10245]
def awk107_h : Hook := (fun _ _ _ _ => none)
/-- railplan/railplanref1.Sqrt -/
def awk108 : Cut where
  f := 390
  n := 59022
  args := [(.int .i64 120000000)]
  pre := []
  v := (.int .i64 10954)
  post := []
  n2 := 59568
  frame := [20816, 20871, 24412, 20864, 8377, 8957, 14193, 14198, 14199, 14200, 10227, 10331, 10332, 10333, 10334, 10328, 10236, 10302, 10240, 10295, 10238, 10242, 10296, 10249, 10250, 10245]
def awk108_h : Hook := (fun _ _ _ _ => none)
/-- railplan/railplanref1.Sqrt -/
def awk109 : Cut where
  f := 390
  n := 59583
  args := [(.int .i64 130000000)]
  pre := []
  v := (.int .i64 11401)
  post := []
  n2 := 60125
  frame := [20816, 20871, 24412, 20864, 8377, 8957, 14193, 14198, 14199, 14200, 10227, 10331, 10332, 10333, 10334, 10328, 10236, 10302, 10240, 10295, 10238, 10242, 10296, 10249, 10250, 10245]
def awk109_h : Hook := (fun _ _ _ _ => none)
/-- railplan/railplanref1.Sqrt -/
def awk110 : Cut where
  f := 390
  n := 60140
  args := [(.int .i64 140000000)]
  pre := []
  v := (.int .i64 11832)
  post := []
  n2 := 60686
  frame := [20816, 20871, 24412, 20864, 8377, 8957, 14193, 14198, 14199, 14200, 10227, 10331, 10332, 10333, 10334, 10328, 10236, 10302, 10240, 10295, 10238, 10242, 10296, 10249, 10250, 10245]
def awk110_h : Hook := (fun _ _ _ _ => none)
/-- railplan/railplanref1.Sqrt -/
def awk111 : Cut where
  f := 390
  n := 60701
  args := [(.int .i64 150000000)]
  pre := []
  v := (.int .i64 12247)
  post := []
  n2 := 61247
  frame := [20816, 20871, 24412, 20864, 8377, 8957, 14193, 14198, 14199, 14200, 10227, 10331, 10332, 10333, 10334, 10328, 10236, 10302, 10240, 10295, 10238, 10242, 10296, 10249, 10250, 10245]
def awk111_h : Hook := (fun _ _ _ _ => none)
/-- railplan/railplanref1.Sqrt -/
def awk112 : Cut where
  f := 390
  n := 61262
  args := [(.int .i64 160000000)]
  pre := []
  v := (.int .i64 12649)
  post := []
  n2 := 61792
  frame := [20816, 20871, 24412, 20864, 8377, 8957, 14193, 14198, 14199, 14200, 10227, 10331, 10332, 10333, 10334, 10328, 10236, 10302, 10240, 10295, 10238, 10242, 10296, 10249, 10250, 10245]
def awk112_h : Hook := (fun _ _ _ _ => none)
/-- railplan/railplanref1.Sqrt -/
def awk113 : Cut where
  f := 390
  n := 61807
  args := [(.int .i64 170000000)]
  pre := []
  v := (.int .i64 13038)
  post := []
  n2 := 62341
  frame := [20816, 20871, 24412, 20864, 8377, 8957, 14193, 14198, 14199, 14200, 10227, 10331, 10332, 10333, 10334, 10328, 10236, 10302, 10240, 10295, 10238, 10242, 10296, 10249, 10250, 10245]
def awk113_h : Hook := (fun _ _ _ _ => none)
/-- railplan/railplanref1.Sqrt -/
def awk114 : Cut where
  f := 390
  n := 62356
  args := [(.int .i64 180000000)]
  pre := []
  v := (.int .i64 13416)
  post := []
  n2 := 62902
  frame := [20816, 20871, 24412, 20864, 8377, 8957, 14193, 14198, 14199, 14200, 10227, 10331, 10332, 10333, 10334, 10328, 10236, 10302, 10240, 10295, 10238, 10242, 10296, 10249, 10250, 10245]
def awk114_h : Hook := (fun _ _ _ _ => none)
/-- railplan/railplanref1.Sqrt -/
def awk115 : Cut where
  f := 390
  n := 62917
  args := [(.int .i64 190000000)]
  pre := []
  v := (.int .i64 13784)
  post := []
  n2 := 63449
  frame := [20816, 20871, 24412, 20864, 8377, 8957, 14193, 14198, 14199, 14200, 10227, 10331, 10332, 10333, 10334, 10328, 10236, 10302, 10240, 10295, 10238, 10242, 10296, 10249, 10250, 10245]
def awk115_h : Hook := (fun _ _ _ _ => none)
/-- railplan/railplanref1.Sqrt -/
def awk116 : Cut where
  f := 390
  n := 63464
  args := [(.int .i64 200000000)]
  pre := []
  v := (.int .i64 14142)
  post := []
  n2 := 63995
  frame := [20816, 20871, 24412, 20864, 8377, 8957, 14193, 14198, 14199, 14200, 10227, 10331, 10332, 10333, 10334, 10328, 10236, 10302, 10240, 10295, 10238, 10242, 10296, 10249, 10250, 10245]
def awk116_h : Hook := (fun _ _ _ _ => none)
/-- railplan/railplanref1.Sqrt -/
def awk117 : Cut where
  f := 390
  n := 64010
  args := [(.int .i64 190000000)]
  pre := []
  v := (.int .i64 13784)
  post := []
  n2 := 64542
  frame := [20816, 20871, 24412, 20864, 8377, 8957, 14193, 14198, 14199, 14200, 10227, 10331, 10332, 10333, 10334, 10328, 10236, 10302, 10240, 10295, 10238, 10242, 10296, 10249, 10250, 10245]
def awk117_h : Hook := (fun _ _ _ _ => none)
/-- railplan/railplanref1.Sqrt -/
def awk118 : Cut where
  f := 390
  n := 64557
  args := [(.int .i64 180000000)]
  pre := []
  v := (.int .i64 13416)
  post := []
  n2 := 65103
  frame := [20816, 20871, 24412, 20864, 8377, 8957, 14193, 14198, 14199, 14200, 10227, 10331, 10332, 10333, 10334, 10328, 10236, 10302, 10240, 10295, 10238, 10242, 10296, 10249, 10250, 10245]
def awk118_h : Hook := (fun _ _ _ _ => none)
/-- railplan/railplanref1.Sqrt -/
def awk119 : Cut where
  f := 390
  n := 65118
  args := [(.int .i64 170000000)]
  pre := []
  v := (.int .i64 13038)
  post := []
  n2 := 65652
  frame := [20816, 20871, 24412, 20864, 8377, 8957, 14193, 14198, 14199, 14200, 10227, 10331, 10332, 10333, 10334, 10328, 10236, 10302, 10240, 10295, 10238, 10242, 10296, 10249, 10250, 10245]
def awk119_h : Hook := (fun _ _ _ _ => none)
/-- railplan/railplanref1.Sqrt -/
def awk120 : Cut where
  f := 390
  n := 65667
  args := [(.int .i64 160000000)]
  pre := []
  v := (.int .i64 12649)
  post := []
  n2 := 66197
  frame := [20816, 20871, 24412, 20864, 8377, 8957, 14193, 14198, 14199, 14200, 10227, 10331, 10332, 10333, 10334, 10328, 10236, 10302, 10240, 10295, 10238, 10242, 10296, 10249, 10250, 10245]
def awk120_h : Hook := (fun _ _ _ _ => none)
/-- railplan/railplanref1.Sqrt -/
def awk121 : Cut where
  f := 390
  n := 66212
  args := [(.int .i64 150000000)]
  pre := []
  v := (.int .i64 12247)
  post := []
  n2 := 66758
  frame := [20816, 20871, 24412, 20864, 8377, 8957, 14193, 14198, 14199, 14200, 10227, 10331, 10332, 10333, 10334, 10328, 10236, 10302, 10240, 10295, 10238, 10242, 10296, 10249, 10250, 10245]
def awk121_h : Hook := (fun _ _ _ _ => none)
/-- railplan/railplanref1.Sqrt -/
def awk122 : Cut where
  f := 390
  n := 66773
  args := [(.int .i64 140000000)]
  pre := []
  v := (.int .i64 11832)
  post := []
  n2 := 67319
  frame := [20816, 20871, 24412, 20864, 8377, 8957, 14193, 14198, 14199, 14200, 10227, 10331, 10332, 10333, 10334, 10328, 10236, 10302, 10240, 10295, 10238, 10242, 10296, 10249, 10250, 10245]
def awk122_h : Hook := (fun _ _ _ _ => none)
/-- railplan/railplanref1.Sqrt -/
def awk123 : Cut where
  f := 390
  n := 67334
  args := [(.int .i64 130000000)]
  pre := []
  v := (.int .i64 11401)
  post := []
  n2 := 67876
  frame := [20816, 20871, 24412, 20864, 8377, 8957, 14193, 14198, 14199, 14200, 10227, 10331, 10332, 10333, 10334, 10328, 10236, 10302, 10240, 10295, 10238, 10242, 10296, 10249, 10250, 10245]
def awk123_h : Hook := (fun _ _ _ _ => none)
/-- railplan/railplanref1.Sqrt -/
def awk124 : Cut where
  f := 390
  n := 67891
  args := [(.int .i64 120000000)]
  pre := []
  v := (.int .i64 10954)
  post := []
  n2 := 68437
  frame := [20816, 20871, 24412, 20864, 8377, 8957, 14193, 14198, 14199, 14200, 10227, 10331, 10332, 10333, 10334, 10328, 10236, 10302, 10240, 10295, 10238, 10242, 10296, 10249, 10250, 10245]
def awk124_h : Hook := (fun _ _ _ _ => none)
/-- railplan/railplanref1.Sqrt -/
def awk125 : Cut where
  f := 390
  n := 68452
  args := [(.int .i64 110000000)]
  pre := []
  v := (.int .i64 10488)
  post := []
  n2 := 68996
  frame := [20816, 20871, 24412, 20864, 8377, 8957, 14193, 14198, 14199, 14200, 10227, 10331, 10332, 10333, 10334, 10328, 10236, 10302, 10240, 10295, 10238, 10242, 10296, 10249, 10250, 10245]
def awk125_h : Hook := (fun _ _ _ _ => none)
/-- railplan/railplanref1.Sqrt -/
def awk126 : Cut where
  f := 390
  n := 69011
  args := [(.int .i64 100000000)]
  pre := []
  v := (.int .i64 10000)
  post := []
  n2 := 69542
  frame := [20816, 20871, 24412, 20864, 8377, 8957, 14193, 14198, 14199, 14200, 10227, 10331, 10332, 10333, 10334, 10328, 10236, 10302, 10240, 10295, 10238, 10242, 10296, 10249, 10250, 10245]
def awk126_h : Hook := (fun _ _ _ _ => none)
/-- railplan/railplanref1.Sqrt -/
def awk127 : Cut where
  f := 390
  n := 69557
  args := [(.int .i64 90000000)]
  pre := []
  v := (.int .i64 9486)
  post := []
  n2 := 70103
  frame := [20816, 20871, 24412, 20864, 8377, 8957, 14193, 14198, 14199, 14200, 10227, 10331, 10332, 10333, 10334, 10328, 10236, 10302, 10240, 10295, 10238, 10242, 10296, 10249, 10250, 10245]
def awk127_h : Hook := (fun _ _ _ _ => none)
/-- railplan/railplanref1.Sqrt -/
def awk128 : Cut where
  f := 390
  n := 70118
  args := [(.int .i64 80000000)]
  pre := []
  v := (.int .i64 8944)
  post := []
  n2 := 70648
  frame := [20816, 20871, 24412, 20864, 8377, 8957, 14193, 14198, 14199, 14200, 10227, 10331, 10332, 10333, 10334, 10328, 10236, 10302, 10240, 10295, 10238, 10242, 10296, 10249, 10250, 10245]
def awk128_h : Hook := (fun _ _ _ _ => none)
/-- railplan/railplanref1.Sqrt -/
def awk129 : Cut where
  f := 390
  n := 70663
  args := [(.int .i64 70000000)]
  pre := []
  v := (.int .i64 8366)
  post := []
  n2 := 71209
  frame := [20816, 20871, 24412, 20864, 8377, 8957, 14193, 14198, 14199, 14200, 10227, 10331, 10332, 10333, 10334, 10328, 10236, 10302, 10240, 10295, 10238, 10242, 10296, 10249, 10250, 10245]
def awk129_h : Hook := (fun _ _ _ _ => none)
/-- railplan/railplanref1.Sqrt -/
def awk130 : Cut where
  f := 390
  n := 71224
  args := [(.int .i64 60000000)]
  pre := []
  v := (.int .i64 7745)
  post := []
  n2 := 71754
  frame := [20816, 20871, 24412, 20864, 8377, 8957, 14193, 14198, 14199, 14200, 10227, 10331, 10332, 10333, 10334, 10328, 10236, 10302, 10240, 10295, 10238, 10242, 10296, 10249, 10250, 10245]
def awk130_h : Hook := (fun _ _ _ _ => none)
/-- railplan/railplanref1.Sqrt -/
def awk131 : Cut where
  f := 390
  n := 71769
  args := [(.int .i64 50000000)]
  pre := []
  v := (.int .i64 7071)
  post := []
  n2 := 72300
  frame := [20816, 20871, 24412, 20864, 8377, 8957, 14193, 14198, 14199, 14200, 10227, 10331, 10332, 10333, 10334, 10328, 10236, 10302, 10240, 10295, 10238, 10242, 10296, 10249, 10250, 10245]
def awk131_h : Hook := (fun _ _ _ _ => none)
/-- railplan/railplanref1.Sqrt -/
def awk132 : Cut where
  f := 390
  n := 72315
  args := [(.int .i64 40000000)]
  pre := []
  v := (.int .i64 6324)
  post := []
  n2 := 72862
  frame := [20816, 20871, 24412, 20864, 8377, 8957, 14193, 14198, 14199, 14200, 10227, 10331, 10332, 10333, 10334, 10328, 10236, 10302, 10240, 10295, 10238, 10242, 10296, 10249, 10250, 10245]
def awk132_h : Hook := (fun _ _ _ _ => none)
/-- railplan/railplanref1.Sqrt -/
def awk133 : Cut where
  f := 390
  n := 72877
  args := [(.int .i64 30000000)]
  pre := []
  v := (.int .i64 5477)
  post := []
  n2 := 73408
  frame := [20816, 20871, 24412, 20864, 8377, 8957, 14193, 14198, 14199, 14200, 10227, 10331, 10332, 10333, 10334, 10328, 10236, 10302, 10240, 10295, 10238, 10242, 10296, 10249, 10250, 10245]
def awk133_h : Hook := (fun _ _ _ _ => none)
/-- railplan/railplanref1.Sqrt -/
def awk134 : Cut where
  f := 390
  n := 73423
  args := [(.int .i64 20000000)]
  pre := []
  v := (.int .i64 4472)
  post := []
  n2 := 73969
  frame := [20816, 20871, 24412, 20864, 8377, 8957, 14193, 14198, 14199, 14200, 10227, 10331, 10332, 10333, 10334, 10328, 10236, 10302, 10240, 10295, 10238, 10242, 10296, 10249, 10250, 10245]
def awk134_h : Hook := (fun _ _ _ _ => none)
/-- railplan/railplanref1.Sqrt -/
def awk135 : Cut where
  f := 390
  n := 73984
  args := [(.int .i64 10000000)]
  pre := []
  v := (.int .i64 3162)
  post := []
  n2 := 74531
  frame := [20816, 20871, 24412, 20864, 8377, 8957, 14193, 14198, 14199, 14200, 10227, 10331, 10332, 10333, 10334, 10328, 10236, 10302, 10240, 10295, 10238, 10242, 10296, 10249, 10250, 10245]
def awk135_h : Hook := (fun _ _ _ _ => none)
def awb11 : EBlk := .cells [(.int .i64 0), (.int .i64 3162), (.int .i64 4472), (.int .i64 5477), (.int .i64 6324), (.int .i64 7071), (.int .i64 7745), (.int .i64 8366), (.int .i64 8944), (.int .i64 9486), (.int .i64 10000), (.int .i64 10488), (.int .i64 10954), (.int .i64 11401), (.int .i64 11832), (.int .i64 12247), (.int .i64 12649), (.int .i64 13038), (.int .i64 13416), (.int .i64 13784), (.int .i64 14142), (.int .i64 13784), (.int .i64 13416), (.int .i64 13038), (.int .i64 12649), (.int .i64 12247), (.int .i64 11832), (.int .i64 11401), (.int .i64 10954), (.int .i64 10488), (.int .i64 10000), (.int .i64 9486), (.int .i64 8944), (.int .i64 8366), (.int .i64 7745), (.int .i64 7071), (.int .i64 6324), (.int .i64 5477), (.int .i64 4472), (.int .i64 3162), (.int .i64 0)] 3 1
/-- railplan/railplanref6.Speeds -/
def awk136 : Cut where
  f := 285
  n := 20871
  args := [(.slice (some ⟨20816, 0, none⟩) 80 FULL), (.int .i64 40), (.agg #[(.string ⟨#[]⟩), (.int .i64 20), (.int .i64 30000), (.int .i64 500), (.int .i64 500)])]
  pre := [(20816, awb9)]
  v := (.tuple #[(.slice (some ⟨24412, 0, none⟩) 41 41), (.int .i64 0)])
  post := [(24412, awb11), (20816, awb9)]
  n2 := 74561
  frame := [20864, 8377, 8957, 14193, 14198, 14199, 14200, 10227, 10331, 10332, 10333, 10334, 10328, 10236, 10302, 10240, 10295, 10238, 10242, 10296, 10249, 10250, 10245]
def awk136_h : Hook := (cutHook awk18 (cutHook awk19 (cutHook awk20 (cutHook awk21 (cutHook awk22 (cutHook awk23 (cutHook awk24 (cutHook awk25 (cutHook awk26 (cutHook awk27 (cutHook awk28 (cutHook awk29 (cutHook awk30 (cutHook awk31 (cutHook awk32 (cutHook awk33 (cutHook awk34 (cutHook awk35 (cutHook awk36 (cutHook awk37 (cutHook awk38 (cutHook awk39 (cutHook awk40 (cutHook awk41 (cutHook awk42 (cutHook awk43 (cutHook awk44 (cutHook awk45 (cutHook awk46 (cutHook awk47 (cutHook awk48 (cutHook awk49 (cutHook awk50 (cutHook awk51 (cutHook awk52 (cutHook awk53 (cutHook awk54 (cutHook awk55 (cutHook awk56 (cutHook awk57 (cutHook awk58 (cutHook awk59 (cutHook awk60 (cutHook awk61 (cutHook awk62 (cutHook awk63 (cutHook awk64 (cutHook awk65 (cutHook awk66 (cutHook awk67 (cutHook awk68 (cutHook awk69 (cutHook awk70 (cutHook awk71 (cutHook awk72 (cutHook awk73 (cutHook awk74 (cutHook awk75 (cutHook awk76 (cutHook awk77 (cutHook awk78 (cutHook awk79 (cutHook awk80 (cutHook awk81 (cutHook awk82 (cutHook awk83 (cutHook awk84 (cutHook awk85 (cutHook awk86 (cutHook awk87 (cutHook awk88 (cutHook awk89 (cutHook awk90 (cutHook awk91 (cutHook awk92 (cutHook awk93 (cutHook awk94 (cutHook awk95 (cutHook awk96 (cutHook awk97 (cutHook awk98 (cutHook awk99 (cutHook awk100 (cutHook awk101 (cutHook awk102 (cutHook awk103 (cutHook awk104 (cutHook awk105 (cutHook awk106 (cutHook awk107 (cutHook awk108 (cutHook awk109 (cutHook awk110 (cutHook awk111 (cutHook awk112 (cutHook awk113 (cutHook awk114 (cutHook awk115 (cutHook awk116 (cutHook awk117 (cutHook awk118 (cutHook awk119 (cutHook awk120 (cutHook awk121 (cutHook awk122 (cutHook awk123 (cutHook awk124 (cutHook awk125 (cutHook awk126 (cutHook awk127 (cutHook awk128 (cutHook awk129 (cutHook awk130 (cutHook awk131 (cutHook awk132 (cutHook awk133 (cutHook awk134 (cutHook awk135 (fun _ _ _ _ => none)))))))))))))))))))))))))))))))))))))))))))))))))))))))))))))))))))))))))))))))))))))))))))))))))))))))))))))))))))))))
def awb12 : EBlk := .cells [(.int .i64 0), (.int .i64 6326), (.int .i64 8946), (.int .i64 10957), (.int .i64 12652), (.int .i64 14146), (.int .i64 15496), (.int .i64 16738), (.int .i64 17894), (.int .i64 18980), (.int .i64 20007), (.int .i64 20984), (.int .i64 21917), (.int .i64 22812), (.int .i64 23673), (.int .i64 24504), (.int .i64 25308), (.int .i64 26087), (.int .i64 26844), (.int .i64 27580), (.int .i64 28297), (.int .i64 29014), (.int .i64 29750), (.int .i64 30507), (.int .i64 31286), (.int .i64 32090), (.int .i64 32921), (.int .i64 33782), (.int .i64 34677), (.int .i64 35610), (.int .i64 36587), (.int .i64 37614), (.int .i64 38700), (.int .i64 39856), (.int .i64 41098), (.int .i64 42448), (.int .i64 43942), (.int .i64 45637), (.int .i64 47648), (.int .i64 50268), (.int .i64 56594)] 3 1
/-- railplan/railplanref6.Times -/
def awk137 : Cut where
  f := 182
  n := 20864
  args := [(.slice (some ⟨20816, 0, none⟩) 80 FULL), (.int .i64 40), (.agg #[(.string ⟨#[]⟩), (.int .i64 20), (.int .i64 30000), (.int .i64 500), (.int .i64 500)])]
  pre := [(20816, awb9)]
  v := (.tuple #[(.slice (some ⟨74570, 0, none⟩) 41 41), (.int .i64 0)])
  post := [(74570, awb12), (20816, awb9)]
  n2 := 76260
  frame := [8377, 8957, 14193, 14198, 14199, 14200, 10227, 10331, 10332, 10333, 10334, 10328, 10236, 10302, 10240, 10295, 10238, 10242, 10296, 10249, 10250, 10245]
def awk137_h : Hook := (cutHook awk136 (fun _ _ _ _ => none))
/-- railplan/railplanref30.Make -/
def awk138 : Cut where
  f := 31
  n := 10331
  args := [(.agg #[(.slice none 0 0), (.slice none 0 0), (.slice (some ⟨8377, 0, none⟩) 3 FULL), (.slice (some ⟨8957, 0, none⟩) 2 FULL)]), (.agg #[(.slice (some ⟨10227, 0, none⟩) 3 3), (.int .i64 0)]), (.agg #[(.string ⟨#[]⟩), (.int .i64 20), (.int .i64 30000), (.int .i64 500), (.int .i64 500)]), (.int .i64 0), (.int .i64 2)]
  pre := [(8377, awb6), (8957, awb7), (10227, awb8)]
  v := (.tuple #[(.agg #[(.int .i64 0), (.int .i64 2), (.slice (some ⟨76506, 0, none⟩) 2 FULL), (.slice (some ⟨76518, 0, none⟩) 2 FULL), (.slice (some ⟨76531, 0, none⟩) 2 FULL), (.int .i64 0), (.int .i64 57)]), (.int .i64 0)])
  post := [(76506, .cells [(.int .i64 (-16)), (.int .i64 (-16))] 3 1), (76518, .cells [(.int .i64 0), (.int .i64 28)] 3 1), (76531, .cells [(.int .i64 33), (.int .i64 61)] 3 1), (8377, awb6), (8957, awb7), (10227, awb8)]
  n2 := 76562
  frame := [10328, 10236, 10302, 10240, 10295, 10238, 10242, 10296, 10249, 10250, 10245]
def awk138_h : Hook := (cutHook awk11 (cutHook awk14 (cutHook awk17 (cutHook awk137 (fun _ _ _ _ => none)))))
/-- railplan/layout.checkLinks -/
def awk139 : Cut where
  f := 191
  n := 77097
  args := [(.agg #[(.slice none 0 0), (.slice none 0 0), (.slice (some ⟨8377, 0, none⟩) 3 FULL), (.slice (some ⟨8957, 0, none⟩) 2 FULL)])]
  pre := [(8377, awb6), (8957, awb7)]
  v := (.int .i64 0)
  post := [(8377, awb6), (8957, awb7)]
  n2 := 77515
  frame := [76579, 76626, 76635, 76946, 10236, 10238, 10227, 10242, 10240, 76573, 76568, 10245, 76506, 76518, 76531]
def awk139_h : Hook := (fun _ _ _ _ => none)
/-- railplan/layout.checkLinks -/
def awk140 : Cut where
  f := 191
  n := 78139
  args := [(.agg #[(.slice none 0 0), (.slice none 0 0), (.slice (some ⟨8377, 0, none⟩) 3 FULL), (.slice (some ⟨8957, 0, none⟩) 2 FULL)])]
  pre := [(8377, awb6), (8957, awb7)]
  v := (.int .i64 0)
  post := [(8377, awb6), (8957, awb7)]
  n2 := 78557
  frame := [77621, 77668, 77677, 77988, 10227, 77615, 77616, 77609, 77610, 10236, 10238, 10242, 10240, 76573, 77542, 77594, 77592, 77603, 76568, 10245, 76506, 76518, 76531]
def awk140_h : Hook := (fun _ _ _ _ => none)
/-- railplan/route.points -/
def awk141 : Cut where
  f := 192
  n := 77615
  args := [(.agg #[(.slice none 0 0), (.slice none 0 0), (.slice (some ⟨8377, 0, none⟩) 3 FULL), (.slice (some ⟨8957, 0, none⟩) 2 FULL)]), (.agg #[(.slice (some ⟨10227, 0, none⟩) 3 3), (.int .i64 0)])]
  pre := [(8377, awb6), (8957, awb7), (10227, awb8)]
  v := (.tuple #[(.slice (some ⟨79026, 0, none⟩) 2 FULL), (.int .i64 0)])
  post := [(79026, .cells [(.int .i64 (-1)), (.int .i64 (-1))] 3 1), (8377, awb6), (8957, awb7), (10227, awb8)]
  n2 := 79034
  frame := [77609, 77610, 10236, 10238, 10242, 10240, 76573, 77542, 77594, 77592, 77603, 76568, 10245, 76506, 76518, 76531]
def awk141_h : Hook := (cutHook awk140 (fun _ _ _ _ => none))
def awb13 : EBlk := .cells [(.int .i64 0), (.int .i64 1), (.int .i64 2)] 3 1
def awb14 : EBlk := .cells [(.int .i64 (-1)), (.int .i64 (-1)), (.int .i64 (-1))] 3 1
/-- railplan/operate.newCourse -/
def awk142 : Cut where
  f := 111
  n := 79058
  args := [(.agg #[(.slice none 0 0), (.slice none 0 0), (.slice (some ⟨8377, 0, none⟩) 3 FULL), (.slice (some ⟨8957, 0, none⟩) 2 FULL)]), (.agg #[(.slice (some ⟨10227, 0, none⟩) 3 3), (.int .i64 0)])]
  pre := [(8377, awb6), (8957, awb7), (10227, awb8)]
  v := (.agg #[(.slice (some ⟨79371, 0, none⟩) 3 FULL), (.slice (some ⟨79377, 0, none⟩) 3 FULL), (.int .i64 2), (.slice none 0 0), (.slice none 0 0), (.slice (some ⟨79350, 0, none⟩) 3 FULL), (.slice (some ⟨79585, 0, none⟩) 2 FULL), (.slice (some ⟨79362, 0, none⟩) 3 FULL), (.int .i64 0)])
  post := [(79371, awb13), (79377, awb14), (79350, awb6), (79585, awb7), (79362, awb10), (8377, awb6), (8957, awb7), (10227, awb8)]
  n2 := 79594
  frame := [76573, 10236, 10238, 10242, 10240, 77594, 77592, 77542, 77603, 76568, 10245, 76506, 76518, 76531]
def awk142_h : Hook := (fun _ _ _ _ => none)
/-- railplan/layout.checkLinks -/
def awk143 : Cut where
  f := 191
  n := 80290
  args := [(.agg #[(.slice none 0 0), (.slice none 0 0), (.slice (some ⟨79350, 0, none⟩) 3 FULL), (.slice (some ⟨79585, 0, none⟩) 2 FULL)])]
  pre := [(79350, awb6), (79585, awb7)]
  v := (.int .i64 0)
  post := [(79350, awb6), (79585, awb7)]
  n2 := 80708
  frame := [79772, 79819, 79828, 80139, 79362, 79766, 79767, 79760, 79761, 79752, 79753, 79744, 79745, 79746, 79747, 79736, 79737, 79738, 79728, 79729, 79730, 10236, 79609, 10240, 77594, 8377, 8957, 10238, 10227, 10242, 79054, 79371, 79377, 77592, 79646, 76573, 77542, 77603, 79604, 79053, 76568, 10245, 76506, 76518, 76531]
def awk143_h : Hook := (fun _ _ _ _ => none)
/-- railplan/route.points -/
def awk144 : Cut where
  f := 192
  n := 79766
  args := [(.agg #[(.slice none 0 0), (.slice none 0 0), (.slice (some ⟨79350, 0, none⟩) 3 FULL), (.slice (some ⟨79585, 0, none⟩) 2 FULL)]), (.agg #[(.slice (some ⟨79362, 0, none⟩) 3 FULL), (.int .i64 0)])]
  pre := [(79350, awb6), (79585, awb7), (79362, awb10)]
  v := (.tuple #[(.slice (some ⟨81177, 0, none⟩) 2 FULL), (.int .i64 0)])
  post := [(81177, .cells [(.int .i64 (-1)), (.int .i64 (-1))] 3 1), (79350, awb6), (79585, awb7), (79362, awb10)]
  n2 := 81185
  frame := [79760, 79761, 79752, 79753, 79744, 79745, 79746, 79747, 79736, 79737, 79738, 79728, 79729, 79730, 10236, 79609, 10240, 77594, 8377, 8957, 10238, 10227, 10242, 79054, 79371, 79377, 77592, 79646, 76573, 77542, 77603, 79604, 79053, 76568, 10245, 76506, 76518, 76531]
def awk144_h : Hook := (cutHook awk143 (fun _ _ _ _ => none))
/-- railplan/route.Cells -/
def awk145 : Cut where
  f := 455
  n := 79752
  args := [(.agg #[(.slice none 0 0), (.slice none 0 0), (.slice (some ⟨79350, 0, none⟩) 3 FULL), (.slice (some ⟨79585, 0, none⟩) 2 FULL)]), (.agg #[(.slice (some ⟨79362, 0, none⟩) 3 FULL), (.int .i64 0)])]
  pre := [(79350, awb6), (79585, awb7), (79362, awb10)]
  v := (.tuple #[(.slice (some ⟨81820, 0, none⟩) 80 FULL), (.int .i64 40), (.int .i64 0)])
  post := [(81820, awb9), (79350, awb6), (79585, awb7), (79362, awb10)]
  n2 := 81842
  frame := [79744, 79745, 79746, 79747, 79736, 79737, 79738, 79728, 79729, 79730, 10236, 79609, 10240, 77594, 8377, 8957, 10238, 10227, 10242, 79054, 79371, 79377, 77592, 79646, 76573, 77542, 77603, 79604, 79053, 76568, 10245, 76506, 76518, 76531]
def awk145_h : Hook := (cutHook awk144 (fun _ _ _ _ => none))
/-- railplan/motion.points -/
def awk146 : Cut where
  f := 299
  n := 81990
  args := [(.agg #[(.slice none 0 0), (.slice none 0 0), (.slice (some ⟨79350, 0, none⟩) 3 FULL), (.slice (some ⟨79585, 0, none⟩) 2 FULL)]), (.agg #[(.slice (some ⟨79362, 0, none⟩) 3 FULL), (.int .i64 0)])]
  pre := [(79350, awb6), (79585, awb7), (79362, awb10)]
  v := (.slice (some ⟨81996, 0, none⟩) 3 3)
  post := [(81996, awb14), (79350, awb6), (79585, awb7), (79362, awb10)]
  n2 := 82379
  frame := [79728, 79729, 79730, 81985, 10236, 79609, 10240, 77594, 8377, 8957, 10238, 10227, 10242, 79054, 79371, 79377, 77592, 79646, 76573, 77542, 77603, 79604, 79053, 76568, 10245, 76506, 76518, 76531]
def awk146_h : Hook := (fun _ _ _ _ => none)
/-- railplan/layout.checkLinks -/
def awk147 : Cut where
  f := 191
  n := 83053
  args := [(.agg #[(.slice none 0 0), (.slice none 0 0), (.slice (some ⟨79350, 0, none⟩) 3 FULL), (.slice (some ⟨79585, 0, none⟩) 2 FULL)])]
  pre := [(79350, awb6), (79585, awb7)]
  v := (.int .i64 0)
  post := [(79350, awb6), (79585, awb7)]
  n2 := 83471
  frame := [82535, 82582, 82591, 82902, 79362, 82529, 82530, 82523, 82524, 82515, 82516, 82507, 82508, 82509, 82510, 82499, 82500, 82501, 82491, 82492, 82493, 82482, 82483, 82484, 82485, 10236, 82431, 79054, 79371, 79377, 77594, 8377, 8957, 10238, 10227, 10242, 10240, 77592, 82432, 82440, 82451, 79609, 79646, 82419, 76573, 77542, 77603, 79604, 79053, 76568, 10245, 76506, 76518, 76531]
def awk147_h : Hook := (fun _ _ _ _ => none)
/-- railplan/route.points -/
def awk148 : Cut where
  f := 192
  n := 82529
  args := [(.agg #[(.slice none 0 0), (.slice none 0 0), (.slice (some ⟨79350, 0, none⟩) 3 FULL), (.slice (some ⟨79585, 0, none⟩) 2 FULL)]), (.agg #[(.slice (some ⟨79362, 0, none⟩) 3 FULL), (.int .i64 0)])]
  pre := [(79350, awb6), (79585, awb7), (79362, awb10)]
  v := (.tuple #[(.slice (some ⟨83940, 0, none⟩) 2 FULL), (.int .i64 0)])
  post := [(83940, .cells [(.int .i64 (-1)), (.int .i64 (-1))] 3 1), (79350, awb6), (79585, awb7), (79362, awb10)]
  n2 := 83948
  frame := [82523, 82524, 82515, 82516, 82507, 82508, 82509, 82510, 82499, 82500, 82501, 82491, 82492, 82493, 82482, 82483, 82484, 82485, 10236, 82431, 79054, 79371, 79377, 77594, 8377, 8957, 10238, 10227, 10242, 10240, 77592, 82432, 82440, 82451, 79609, 79646, 82419, 76573, 77542, 77603, 79604, 79053, 76568, 10245, 76506, 76518, 76531]
def awk148_h : Hook := (cutHook awk147 (fun _ _ _ _ => none))
/-- railplan/route.Cells -/
def awk149 : Cut where
  f := 455
  n := 82515
  args := [(.agg #[(.slice none 0 0), (.slice none 0 0), (.slice (some ⟨79350, 0, none⟩) 3 FULL), (.slice (some ⟨79585, 0, none⟩) 2 FULL)]), (.agg #[(.slice (some ⟨79362, 0, none⟩) 3 FULL), (.int .i64 0)])]
  pre := [(79350, awb6), (79585, awb7), (79362, awb10)]
  v := (.tuple #[(.slice (some ⟨84583, 0, none⟩) 80 FULL), (.int .i64 40), (.int .i64 0)])
  post := [(84583, awb9), (79350, awb6), (79585, awb7), (79362, awb10)]
  n2 := 84605
  frame := [82507, 82508, 82509, 82510, 82499, 82500, 82501, 82491, 82492, 82493, 82482, 82483, 82484, 82485, 10236, 82431, 79054, 79371, 79377, 77594, 8377, 8957, 10238, 10227, 10242, 10240, 77592, 82432, 82440, 82451, 79609, 79646, 82419, 76573, 77542, 77603, 79604, 79053, 76568, 10245, 76506, 76518, 76531]
def awk149_h : Hook := (cutHook awk148 (fun _ _ _ _ => none))
/-- railplan/motion.points -/
def awk150 : Cut where
  f := 299
  n := 84753
  args := [(.agg #[(.slice none 0 0), (.slice none 0 0), (.slice (some ⟨79350, 0, none⟩) 3 FULL), (.slice (some ⟨79585, 0, none⟩) 2 FULL)]), (.agg #[(.slice (some ⟨79362, 0, none⟩) 3 FULL), (.int .i64 0)])]
  pre := [(79350, awb6), (79585, awb7), (79362, awb10)]
  v := (.slice (some ⟨84759, 0, none⟩) 3 3)
  post := [(84759, awb14), (79350, awb6), (79585, awb7), (79362, awb10)]
  n2 := 85142
  frame := [82491, 82492, 82493, 84748, 82482, 82483, 82484, 82485, 10236, 82431, 79054, 79371, 79377, 77594, 8377, 8957, 10238, 10227, 10242, 10240, 77592, 82432, 82440, 82451, 79609, 79646, 82419, 76573, 77542, 77603, 79604, 79053, 76568, 10245, 76506, 76518, 76531]
def awk150_h : Hook := (fun _ _ _ _ => none)
/-- railplan/layout.checkLinks -/
def awk151 : Cut where
  f := 191
  n := 85800
  args := [(.agg #[(.slice none 0 0), (.slice none 0 0), (.slice (some ⟨79350, 0, none⟩) 3 FULL), (.slice (some ⟨79585, 0, none⟩) 2 FULL)])]
  pre := [(79350, awb6), (79585, awb7)]
  v := (.int .i64 0)
  post := [(79350, awb6), (79585, awb7)]
  n2 := 86218
  frame := [85282, 85329, 85338, 85649, 79362, 85276, 85277, 85270, 85271, 85262, 85263, 85254, 85255, 85256, 85257, 85243, 85244, 85245, 85202, 85203, 85204, 85205, 85215, 82482, 82483, 82484, 82485, 10236, 82431, 79054, 79371, 79377, 77594, 8377, 8957, 10238, 10227, 10242, 10240, 77592, 82432, 82440, 82451, 79609, 79646, 82419, 76573, 77542, 77603, 79604, 79053, 76568, 10245, 76506, 76518, 76531]
def awk151_h : Hook := (fun _ _ _ _ => none)
/-- railplan/route.points -/
def awk152 : Cut where
  f := 192
  n := 85276
  args := [(.agg #[(.slice none 0 0), (.slice none 0 0), (.slice (some ⟨79350, 0, none⟩) 3 FULL), (.slice (some ⟨79585, 0, none⟩) 2 FULL)]), (.agg #[(.slice (some ⟨79362, 0, none⟩) 3 FULL), (.int .i64 0)])]
  pre := [(79350, awb6), (79585, awb7), (79362, awb10)]
  v := (.tuple #[(.slice (some ⟨86687, 0, none⟩) 2 FULL), (.int .i64 0)])
  post := [(86687, .cells [(.int .i64 (-1)), (.int .i64 (-1))] 3 1), (79350, awb6), (79585, awb7), (79362, awb10)]
  n2 := 86695
  frame := [85270, 85271, 85262, 85263, 85254, 85255, 85256, 85257, 85243, 85244, 85245, 85202, 85203, 85204, 85205, 85215, 82482, 82483, 82484, 82485, 10236, 82431, 79054, 79371, 79377, 77594, 8377, 8957, 10238, 10227, 10242, 10240, 77592, 82432, 82440, 82451, 79609, 79646, 82419, 76573, 77542, 77603, 79604, 79053, 76568, 10245, 76506, 76518, 76531]
def awk152_h : Hook := (cutHook awk151 (fun _ _ _ _ => none))
/-- railplan/route.Cells -/
def awk153 : Cut where
  f := 455
  n := 85262
  args := [(.agg #[(.slice none 0 0), (.slice none 0 0), (.slice (some ⟨79350, 0, none⟩) 3 FULL), (.slice (some ⟨79585, 0, none⟩) 2 FULL)]), (.agg #[(.slice (some ⟨79362, 0, none⟩) 3 FULL), (.int .i64 0)])]
  pre := [(79350, awb6), (79585, awb7), (79362, awb10)]
  v := (.tuple #[(.slice (some ⟨87330, 0, none⟩) 80 FULL), (.int .i64 40), (.int .i64 0)])
  post := [(87330, awb9), (79350, awb6), (79585, awb7), (79362, awb10)]
  n2 := 87352
  frame := [85254, 85255, 85256, 85257, 85243, 85244, 85245, 85202, 85203, 85204, 85205, 85215, 82482, 82483, 82484, 82485, 10236, 82431, 79054, 79371, 79377, 77594, 8377, 8957, 10238, 10227, 10242, 10240, 77592, 82432, 82440, 82451, 79609, 79646, 82419, 76573, 77542, 77603, 79604, 79053, 76568, 10245, 76506, 76518, 76531]
def awk153_h : Hook := (cutHook awk152 (fun _ _ _ _ => none))
/-- railplan/dynamics.checkRun -/
def awk154 : Cut where
  f := 487
  n := 87509
  args := [(.slice (some ⟨87330, 0, none⟩) 80 FULL), (.int .i64 40), (.agg #[(.string ⟨#[]⟩), (.int .i64 20), (.int .i64 30000), (.int .i64 500), (.int .i64 500)])]
  pre := [(87330, awb9)]
  v := (.int .i64 0)
  post := [(87330, awb9)]
  n2 := 89574
  frame := [87502, 87495, 79350, 79585, 79362, 85243, 85244, 85245, 87484, 85202, 85203, 85204, 85205, 85215, 82482, 82483, 82484, 82485, 10236, 82431, 79054, 79371, 79377, 77594, 8377, 8957, 10238, 10227, 10242, 10240, 77592, 82432, 82440, 82451, 79609, 79646, 82419, 76573, 77542, 77603, 79604, 79053, 76568, 10245, 76506, 76518, 76531]
def awk154_h : Hook := (fun _ _ _ _ => none)
/-- railplan/dynamics.limit -/
def awk155 : Cut where
  f := 493
  n := 89596
  args := [(.slice (some ⟨87330, 0, none⟩) 80 FULL), (.int .i64 40), (.agg #[(.string ⟨#[]⟩), (.int .i64 20), (.int .i64 30000), (.int .i64 500), (.int .i64 500)])]
  pre := [(87330, awb9)]
  v := (.int .i64 30000)
  post := [(87330, awb9)]
  n2 := 89867
  frame := [89581, 89590, 87502, 87495, 79350, 79585, 79362, 85243, 85244, 85245, 87484, 85202, 85203, 85204, 85205, 85215, 82482, 82483, 82484, 82485, 10236, 82431, 79054, 79371, 79377, 77594, 8377, 8957, 10238, 10227, 10242, 10240, 77592, 82432, 82440, 82451, 79609, 79646, 82419, 76573, 77542, 77603, 79604, 79053, 76568, 10245, 76506, 76518, 76531]
def awk155_h : Hook := (fun _ _ _ _ => none)
/-- railplan/dynamics.limit -/
def awk156 : Cut where
  f := 493
  n := 89878
  args := [(.slice (some ⟨87330, 0, none⟩) 80 FULL), (.int .i64 41), (.agg #[(.string ⟨#[]⟩), (.int .i64 20), (.int .i64 30000), (.int .i64 500), (.int .i64 500)])]
  pre := [(87330, awb9)]
  v := (.int .i64 30000)
  post := [(87330, awb9)]
  n2 := 90149
  frame := [89581, 89590, 87502, 87495, 79350, 79585, 79362, 85243, 85244, 85245, 87484, 85202, 85203, 85204, 85205, 85215, 82482, 82483, 82484, 82485, 10236, 82431, 79054, 79371, 79377, 77594, 8377, 8957, 10238, 10227, 10242, 10240, 77592, 82432, 82440, 82451, 79609, 79646, 82419, 76573, 77542, 77603, 79604, 79053, 76568, 10245, 76506, 76518, 76531]
def awk156_h : Hook := (fun _ _ _ _ => none)
/-- railplan/dynamics.limit -/
def awk157 : Cut where
  f := 493
  n := 90203
  args := [(.slice (some ⟨87330, 0, none⟩) 80 FULL), (.int .i64 42), (.agg #[(.string ⟨#[]⟩), (.int .i64 20), (.int .i64 30000), (.int .i64 500), (.int .i64 500)])]
  pre := [(87330, awb9)]
  v := (.int .i64 30000)
  post := [(87330, awb9)]
  n2 := 90474
  frame := [89581, 89590, 87502, 87495, 79350, 79585, 79362, 85243, 85244, 85245, 87484, 85202, 85203, 85204, 85205, 85215, 82482, 82483, 82484, 82485, 10236, 82431, 79054, 79371, 79377, 77594, 8377, 8957, 10238, 10227, 10242, 10240, 77592, 82432, 82440, 82451, 79609, 79646, 82419, 76573, 77542, 77603, 79604, 79053, 76568, 10245, 76506, 76518, 76531]
def awk157_h : Hook := (fun _ _ _ _ => none)
/-- railplan/dynamics.limit -/
def awk158 : Cut where
  f := 493
  n := 90528
  args := [(.slice (some ⟨87330, 0, none⟩) 80 FULL), (.int .i64 43), (.agg #[(.string ⟨#[]⟩), (.int .i64 20), (.int .i64 30000), (.int .i64 500), (.int .i64 500)])]
  pre := [(87330, awb9)]
  v := (.int .i64 30000)
  post := [(87330, awb9)]
  n2 := 90799
  frame := [89581, 89590, 87502, 87495, 79350, 79585, 79362, 85243, 85244, 85245, 87484, 85202, 85203, 85204, 85205, 85215, 82482, 82483, 82484, 82485, 10236, 82431, 79054, 79371, 79377, 77594, 8377, 8957, 10238, 10227, 10242, 10240, 77592, 82432, 82440, 82451, 79609, 79646, 82419, 76573, 77542, 77603, 79604, 79053, 76568, 10245, 76506, 76518, 76531]
def awk158_h : Hook := (fun _ _ _ _ => none)
/-- railplan/dynamics.limit -/
def awk159 : Cut where
  f := 493
  n := 90853
  args := [(.slice (some ⟨87330, 0, none⟩) 80 FULL), (.int .i64 44), (.agg #[(.string ⟨#[]⟩), (.int .i64 20), (.int .i64 30000), (.int .i64 500), (.int .i64 500)])]
  pre := [(87330, awb9)]
  v := (.int .i64 30000)
  post := [(87330, awb9)]
  n2 := 91124
  frame := [89581, 89590, 87502, 87495, 79350, 79585, 79362, 85243, 85244, 85245, 87484, 85202, 85203, 85204, 85205, 85215, 82482, 82483, 82484, 82485, 10236, 82431, 79054, 79371, 79377, 77594, 8377, 8957, 10238, 10227, 10242, 10240, 77592, 82432, 82440, 82451, 79609, 79646, 82419, 76573, 77542, 77603, 79604, 79053, 76568, 10245, 76506, 76518, 76531]
def awk159_h : Hook := (fun _ _ _ _ => none)
/-- railplan/dynamics.limit -/
def awk160 : Cut where
  f := 493
  n := 91178
  args := [(.slice (some ⟨87330, 0, none⟩) 80 FULL), (.int .i64 45), (.agg #[(.string ⟨#[]⟩), (.int .i64 20), (.int .i64 30000), (.int .i64 500), (.int .i64 500)])]
  pre := [(87330, awb9)]
  v := (.int .i64 30000)
  post := [(87330, awb9)]
  n2 := 91449
  frame := [89581, 89590, 87502, 87495, 79350, 79585, 79362, 85243, 85244, 85245, 87484, 85202, 85203, 85204, 85205, 85215, 82482, 82483, 82484, 82485, 10236, 82431, 79054, 79371, 79377, 77594, 8377, 8957, 10238, 10227, 10242, 10240, 77592, 82432, 82440, 82451, 79609, 79646, 82419, 76573, 77542, 77603, 79604, 79053, 76568, 10245, 76506, 76518, 76531]
def awk160_h : Hook := (fun _ _ _ _ => none)
/-- railplan/dynamics.limit -/
def awk161 : Cut where
  f := 493
  n := 91503
  args := [(.slice (some ⟨87330, 0, none⟩) 80 FULL), (.int .i64 46), (.agg #[(.string ⟨#[]⟩), (.int .i64 20), (.int .i64 30000), (.int .i64 500), (.int .i64 500)])]
  pre := [(87330, awb9)]
  v := (.int .i64 30000)
  post := [(87330, awb9)]
  n2 := 91774
  frame := [89581, 89590, 87502, 87495, 79350, 79585, 79362, 85243, 85244, 85245, 87484, 85202, 85203, 85204, 85205, 85215, 82482, 82483, 82484, 82485, 10236, 82431, 79054, 79371, 79377, 77594, 8377, 8957, 10238, 10227, 10242, 10240, 77592, 82432, 82440, 82451, 79609, 79646, 82419, 76573, 77542, 77603, 79604, 79053, 76568, 10245, 76506, 76518, 76531]
def awk161_h : Hook := (fun _ _ _ _ => none)
/-- railplan/dynamics.limit -/
def awk162 : Cut where
  f := 493
  n := 91828
  args := [(.slice (some ⟨87330, 0, none⟩) 80 FULL), (.int .i64 47), (.agg #[(.string ⟨#[]⟩), (.int .i64 20), (.int .i64 30000), (.int .i64 500), (.int .i64 500)])]
  pre := [(87330, awb9)]
  v := (.int .i64 30000)
  post := [(87330, awb9)]
  n2 := 92099
  frame := [89581, 89590, 87502, 87495, 79350, 79585, 79362, 85243, 85244, 85245, 87484, 85202, 85203, 85204, 85205, 85215, 82482, 82483, 82484, 82485, 10236, 82431, 79054, 79371, 79377, 77594, 8377, 8957, 10238, 10227, 10242, 10240, 77592, 82432, 82440, 82451, 79609, 79646, 82419, 76573, 77542, 77603, 79604, 79053, 76568, 10245, 76506, 76518, 76531]
def awk162_h : Hook := (fun _ _ _ _ => none)
/-- railplan/dynamics.limit -/
def awk163 : Cut where
  f := 493
  n := 92153
  args := [(.slice (some ⟨87330, 0, none⟩) 80 FULL), (.int .i64 48), (.agg #[(.string ⟨#[]⟩), (.int .i64 20), (.int .i64 30000), (.int .i64 500), (.int .i64 500)])]
  pre := [(87330, awb9)]
  v := (.int .i64 30000)
  post := [(87330, awb9)]
  n2 := 92424
  frame := [89581, 89590, 87502, 87495, 79350, 79585, 79362, 85243, 85244, 85245, 87484, 85202, 85203, 85204, 85205, 85215, 82482, 82483, 82484, 82485, 10236, 82431, 79054, 79371, 79377, 77594, 8377, 8957, 10238, 10227, 10242, 10240, 77592, 82432, 82440, 82451, 79609, 79646, 82419, 76573, 77542, 77603, 79604, 79053, 76568, 10245, 76506, 76518, 76531]
def awk163_h : Hook := (fun _ _ _ _ => none)
/-- railplan/dynamics.limit -/
def awk164 : Cut where
  f := 493
  n := 92478
  args := [(.slice (some ⟨87330, 0, none⟩) 80 FULL), (.int .i64 49), (.agg #[(.string ⟨#[]⟩), (.int .i64 20), (.int .i64 30000), (.int .i64 500), (.int .i64 500)])]
  pre := [(87330, awb9)]
  v := (.int .i64 30000)
  post := [(87330, awb9)]
  n2 := 92749
  frame := [89581, 89590, 87502, 87495, 79350, 79585, 79362, 85243, 85244, 85245, 87484, 85202, 85203, 85204, 85205, 85215, 82482, 82483, 82484, 82485, 10236, 82431, 79054, 79371, 79377, 77594, 8377, 8957, 10238, 10227, 10242, 10240, 77592, 82432, 82440, 82451, 79609, 79646, 82419, 76573, 77542, 77603, 79604, 79053, 76568, 10245, 76506, 76518, 76531]
def awk164_h : Hook := (fun _ _ _ _ => none)
/-- railplan/dynamics.limit -/
def awk165 : Cut where
  f := 493
  n := 92803
  args := [(.slice (some ⟨87330, 0, none⟩) 80 FULL), (.int .i64 50), (.agg #[(.string ⟨#[]⟩), (.int .i64 20), (.int .i64 30000), (.int .i64 500), (.int .i64 500)])]
  pre := [(87330, awb9)]
  v := (.int .i64 30000)
  post := [(87330, awb9)]
  n2 := 93074
  frame := [89581, 89590, 87502, 87495, 79350, 79585, 79362, 85243, 85244, 85245, 87484, 85202, 85203, 85204, 85205, 85215, 82482, 82483, 82484, 82485, 10236, 82431, 79054, 79371, 79377, 77594, 8377, 8957, 10238, 10227, 10242, 10240, 77592, 82432, 82440, 82451, 79609, 79646, 82419, 76573, 77542, 77603, 79604, 79053, 76568, 10245, 76506, 76518, 76531]
def awk165_h : Hook := (fun _ _ _ _ => none)
/-- railplan/dynamics.limit -/
def awk166 : Cut where
  f := 493
  n := 93128
  args := [(.slice (some ⟨87330, 0, none⟩) 80 FULL), (.int .i64 51), (.agg #[(.string ⟨#[]⟩), (.int .i64 20), (.int .i64 30000), (.int .i64 500), (.int .i64 500)])]
  pre := [(87330, awb9)]
  v := (.int .i64 30000)
  post := [(87330, awb9)]
  n2 := 93399
  frame := [89581, 89590, 87502, 87495, 79350, 79585, 79362, 85243, 85244, 85245, 87484, 85202, 85203, 85204, 85205, 85215, 82482, 82483, 82484, 82485, 10236, 82431, 79054, 79371, 79377, 77594, 8377, 8957, 10238, 10227, 10242, 10240, 77592, 82432, 82440, 82451, 79609, 79646, 82419, 76573, 77542, 77603, 79604, 79053, 76568, 10245, 76506, 76518, 76531]
def awk166_h : Hook := (fun _ _ _ _ => none)
/-- railplan/dynamics.limit -/
def awk167 : Cut where
  f := 493
  n := 93453
  args := [(.slice (some ⟨87330, 0, none⟩) 80 FULL), (.int .i64 52), (.agg #[(.string ⟨#[]⟩), (.int .i64 20), (.int .i64 30000), (.int .i64 500), (.int .i64 500)])]
  pre := [(87330, awb9)]
  v := (.int .i64 30000)
  post := [(87330, awb9)]
  n2 := 93724
  frame := [89581, 89590, 87502, 87495, 79350, 79585, 79362, 85243, 85244, 85245, 87484, 85202, 85203, 85204, 85205, 85215, 82482, 82483, 82484, 82485, 10236, 82431, 79054, 79371, 79377, 77594, 8377, 8957, 10238, 10227, 10242, 10240, 77592, 82432, 82440, 82451, 79609, 79646, 82419, 76573, 77542, 77603, 79604, 79053, 76568, 10245, 76506, 76518, 76531]
def awk167_h : Hook := (fun _ _ _ _ => none)
/-- railplan/dynamics.limit -/
def awk168 : Cut where
  f := 493
  n := 93778
  args := [(.slice (some ⟨87330, 0, none⟩) 80 FULL), (.int .i64 53), (.agg #[(.string ⟨#[]⟩), (.int .i64 20), (.int .i64 30000), (.int .i64 500), (.int .i64 500)])]
  pre := [(87330, awb9)]
  v := (.int .i64 30000)
  post := [(87330, awb9)]
  n2 := 94049
  frame := [89581, 89590, 87502, 87495, 79350, 79585, 79362, 85243, 85244, 85245, 87484, 85202, 85203, 85204, 85205, 85215, 82482, 82483, 82484, 82485, 10236, 82431, 79054, 79371, 79377, 77594, 8377, 8957, 10238, 10227, 10242, 10240, 77592, 82432, 82440, 82451, 79609, 79646, 82419, 76573, 77542, 77603, 79604, 79053, 76568, 10245, 76506, 76518, 76531]
def awk168_h : Hook := (fun _ _ _ _ => none)
/-- railplan/dynamics.limit -/
def awk169 : Cut where
  f := 493
  n := 94103
  args := [(.slice (some ⟨87330, 0, none⟩) 80 FULL), (.int .i64 54), (.agg #[(.string ⟨#[]⟩), (.int .i64 20), (.int .i64 30000), (.int .i64 500), (.int .i64 500)])]
  pre := [(87330, awb9)]
  v := (.int .i64 30000)
  post := [(87330, awb9)]
  n2 := 94374
  frame := [89581, 89590, 87502, 87495, 79350, 79585, 79362, 85243, 85244, 85245, 87484, 85202, 85203, 85204, 85205, 85215, 82482, 82483, 82484, 82485, 10236, 82431, 79054, 79371, 79377, 77594, 8377, 8957, 10238, 10227, 10242, 10240, 77592, 82432, 82440, 82451, 79609, 79646, 82419, 76573, 77542, 77603, 79604, 79053, 76568, 10245, 76506, 76518, 76531]
def awk169_h : Hook := (fun _ _ _ _ => none)
/-- railplan/dynamics.limit -/
def awk170 : Cut where
  f := 493
  n := 94428
  args := [(.slice (some ⟨87330, 0, none⟩) 80 FULL), (.int .i64 55), (.agg #[(.string ⟨#[]⟩), (.int .i64 20), (.int .i64 30000), (.int .i64 500), (.int .i64 500)])]
  pre := [(87330, awb9)]
  v := (.int .i64 30000)
  post := [(87330, awb9)]
  n2 := 94699
  frame := [89581, 89590, 87502, 87495, 79350, 79585, 79362, 85243, 85244, 85245, 87484, 85202, 85203, 85204, 85205, 85215, 82482, 82483, 82484, 82485, 10236, 82431, 79054, 79371, 79377, 77594, 8377, 8957, 10238, 10227, 10242, 10240, 77592, 82432, 82440, 82451, 79609, 79646, 82419, 76573, 77542, 77603, 79604, 79053, 76568, 10245, 76506, 76518, 76531]
def awk170_h : Hook := (fun _ _ _ _ => none)
/-- railplan/dynamics.limit -/
def awk171 : Cut where
  f := 493
  n := 94753
  args := [(.slice (some ⟨87330, 0, none⟩) 80 FULL), (.int .i64 56), (.agg #[(.string ⟨#[]⟩), (.int .i64 20), (.int .i64 30000), (.int .i64 500), (.int .i64 500)])]
  pre := [(87330, awb9)]
  v := (.int .i64 30000)
  post := [(87330, awb9)]
  n2 := 95024
  frame := [89581, 89590, 87502, 87495, 79350, 79585, 79362, 85243, 85244, 85245, 87484, 85202, 85203, 85204, 85205, 85215, 82482, 82483, 82484, 82485, 10236, 82431, 79054, 79371, 79377, 77594, 8377, 8957, 10238, 10227, 10242, 10240, 77592, 82432, 82440, 82451, 79609, 79646, 82419, 76573, 77542, 77603, 79604, 79053, 76568, 10245, 76506, 76518, 76531]
def awk171_h : Hook := (fun _ _ _ _ => none)
/-- railplan/dynamics.limit -/
def awk172 : Cut where
  f := 493
  n := 95078
  args := [(.slice (some ⟨87330, 0, none⟩) 80 FULL), (.int .i64 57), (.agg #[(.string ⟨#[]⟩), (.int .i64 20), (.int .i64 30000), (.int .i64 500), (.int .i64 500)])]
  pre := [(87330, awb9)]
  v := (.int .i64 30000)
  post := [(87330, awb9)]
  n2 := 95349
  frame := [89581, 89590, 87502, 87495, 79350, 79585, 79362, 85243, 85244, 85245, 87484, 85202, 85203, 85204, 85205, 85215, 82482, 82483, 82484, 82485, 10236, 82431, 79054, 79371, 79377, 77594, 8377, 8957, 10238, 10227, 10242, 10240, 77592, 82432, 82440, 82451, 79609, 79646, 82419, 76573, 77542, 77603, 79604, 79053, 76568, 10245, 76506, 76518, 76531]
def awk172_h : Hook := (fun _ _ _ _ => none)
/-- railplan/dynamics.limit -/
def awk173 : Cut where
  f := 493
  n := 95403
  args := [(.slice (some ⟨87330, 0, none⟩) 80 FULL), (.int .i64 58), (.agg #[(.string ⟨#[]⟩), (.int .i64 20), (.int .i64 30000), (.int .i64 500), (.int .i64 500)])]
  pre := [(87330, awb9)]
  v := (.int .i64 30000)
  post := [(87330, awb9)]
  n2 := 95674
  frame := [89581, 89590, 87502, 87495, 79350, 79585, 79362, 85243, 85244, 85245, 87484, 85202, 85203, 85204, 85205, 85215, 82482, 82483, 82484, 82485, 10236, 82431, 79054, 79371, 79377, 77594, 8377, 8957, 10238, 10227, 10242, 10240, 77592, 82432, 82440, 82451, 79609, 79646, 82419, 76573, 77542, 77603, 79604, 79053, 76568, 10245, 76506, 76518, 76531]
def awk173_h : Hook := (fun _ _ _ _ => none)
/-- railplan/dynamics.limit -/
def awk174 : Cut where
  f := 493
  n := 95728
  args := [(.slice (some ⟨87330, 0, none⟩) 80 FULL), (.int .i64 59), (.agg #[(.string ⟨#[]⟩), (.int .i64 20), (.int .i64 30000), (.int .i64 500), (.int .i64 500)])]
  pre := [(87330, awb9)]
  v := (.int .i64 30000)
  post := [(87330, awb9)]
  n2 := 95999
  frame := [89581, 89590, 87502, 87495, 79350, 79585, 79362, 85243, 85244, 85245, 87484, 85202, 85203, 85204, 85205, 85215, 82482, 82483, 82484, 82485, 10236, 82431, 79054, 79371, 79377, 77594, 8377, 8957, 10238, 10227, 10242, 10240, 77592, 82432, 82440, 82451, 79609, 79646, 82419, 76573, 77542, 77603, 79604, 79053, 76568, 10245, 76506, 76518, 76531]
def awk174_h : Hook := (fun _ _ _ _ => none)
/-- railplan/dynamics.limit -/
def awk175 : Cut where
  f := 493
  n := 96053
  args := [(.slice (some ⟨87330, 0, none⟩) 80 FULL), (.int .i64 60), (.agg #[(.string ⟨#[]⟩), (.int .i64 20), (.int .i64 30000), (.int .i64 500), (.int .i64 500)])]
  pre := [(87330, awb9)]
  v := (.int .i64 30000)
  post := [(87330, awb9)]
  n2 := 96324
  frame := [89581, 89590, 87502, 87495, 79350, 79585, 79362, 85243, 85244, 85245, 87484, 85202, 85203, 85204, 85205, 85215, 82482, 82483, 82484, 82485, 10236, 82431, 79054, 79371, 79377, 77594, 8377, 8957, 10238, 10227, 10242, 10240, 77592, 82432, 82440, 82451, 79609, 79646, 82419, 76573, 77542, 77603, 79604, 79053, 76568, 10245, 76506, 76518, 76531]
def awk175_h : Hook := (fun _ _ _ _ => none)
/-- railplan/dynamics.limit -/
def awk176 : Cut where
  f := 493
  n := 96378
  args := [(.slice (some ⟨87330, 0, none⟩) 80 FULL), (.int .i64 61), (.agg #[(.string ⟨#[]⟩), (.int .i64 20), (.int .i64 30000), (.int .i64 500), (.int .i64 500)])]
  pre := [(87330, awb9)]
  v := (.int .i64 30000)
  post := [(87330, awb9)]
  n2 := 96649
  frame := [89581, 89590, 87502, 87495, 79350, 79585, 79362, 85243, 85244, 85245, 87484, 85202, 85203, 85204, 85205, 85215, 82482, 82483, 82484, 82485, 10236, 82431, 79054, 79371, 79377, 77594, 8377, 8957, 10238, 10227, 10242, 10240, 77592, 82432, 82440, 82451, 79609, 79646, 82419, 76573, 77542, 77603, 79604, 79053, 76568, 10245, 76506, 76518, 76531]
def awk176_h : Hook := (fun _ _ _ _ => none)
/-- railplan/dynamics.limit -/
def awk177 : Cut where
  f := 493
  n := 96703
  args := [(.slice (some ⟨87330, 0, none⟩) 80 FULL), (.int .i64 62), (.agg #[(.string ⟨#[]⟩), (.int .i64 20), (.int .i64 30000), (.int .i64 500), (.int .i64 500)])]
  pre := [(87330, awb9)]
  v := (.int .i64 30000)
  post := [(87330, awb9)]
  n2 := 96974
  frame := [89581, 89590, 87502, 87495, 79350, 79585, 79362, 85243, 85244, 85245, 87484, 85202, 85203, 85204, 85205, 85215, 82482, 82483, 82484, 82485, 10236, 82431, 79054, 79371, 79377, 77594, 8377, 8957, 10238, 10227, 10242, 10240, 77592, 82432, 82440, 82451, 79609, 79646, 82419, 76573, 77542, 77603, 79604, 79053, 76568, 10245, 76506, 76518, 76531]
def awk177_h : Hook := (fun _ _ _ _ => none)
/-- railplan/dynamics.limit -/
def awk178 : Cut where
  f := 493
  n := 97028
  args := [(.slice (some ⟨87330, 0, none⟩) 80 FULL), (.int .i64 63), (.agg #[(.string ⟨#[]⟩), (.int .i64 20), (.int .i64 30000), (.int .i64 500), (.int .i64 500)])]
  pre := [(87330, awb9)]
  v := (.int .i64 30000)
  post := [(87330, awb9)]
  n2 := 97299
  frame := [89581, 89590, 87502, 87495, 79350, 79585, 79362, 85243, 85244, 85245, 87484, 85202, 85203, 85204, 85205, 85215, 82482, 82483, 82484, 82485, 10236, 82431, 79054, 79371, 79377, 77594, 8377, 8957, 10238, 10227, 10242, 10240, 77592, 82432, 82440, 82451, 79609, 79646, 82419, 76573, 77542, 77603, 79604, 79053, 76568, 10245, 76506, 76518, 76531]
def awk178_h : Hook := (fun _ _ _ _ => none)
/-- railplan/dynamics.limit -/
def awk179 : Cut where
  f := 493
  n := 97353
  args := [(.slice (some ⟨87330, 0, none⟩) 80 FULL), (.int .i64 64), (.agg #[(.string ⟨#[]⟩), (.int .i64 20), (.int .i64 30000), (.int .i64 500), (.int .i64 500)])]
  pre := [(87330, awb9)]
  v := (.int .i64 30000)
  post := [(87330, awb9)]
  n2 := 97624
  frame := [89581, 89590, 87502, 87495, 79350, 79585, 79362, 85243, 85244, 85245, 87484, 85202, 85203, 85204, 85205, 85215, 82482, 82483, 82484, 82485, 10236, 82431, 79054, 79371, 79377, 77594, 8377, 8957, 10238, 10227, 10242, 10240, 77592, 82432, 82440, 82451, 79609, 79646, 82419, 76573, 77542, 77603, 79604, 79053, 76568, 10245, 76506, 76518, 76531]
def awk179_h : Hook := (fun _ _ _ _ => none)
/-- railplan/dynamics.limit -/
def awk180 : Cut where
  f := 493
  n := 97678
  args := [(.slice (some ⟨87330, 0, none⟩) 80 FULL), (.int .i64 65), (.agg #[(.string ⟨#[]⟩), (.int .i64 20), (.int .i64 30000), (.int .i64 500), (.int .i64 500)])]
  pre := [(87330, awb9)]
  v := (.int .i64 30000)
  post := [(87330, awb9)]
  n2 := 97949
  frame := [89581, 89590, 87502, 87495, 79350, 79585, 79362, 85243, 85244, 85245, 87484, 85202, 85203, 85204, 85205, 85215, 82482, 82483, 82484, 82485, 10236, 82431, 79054, 79371, 79377, 77594, 8377, 8957, 10238, 10227, 10242, 10240, 77592, 82432, 82440, 82451, 79609, 79646, 82419, 76573, 77542, 77603, 79604, 79053, 76568, 10245, 76506, 76518, 76531]
def awk180_h : Hook := (fun _ _ _ _ => none)
/-- railplan/dynamics.limit -/
def awk181 : Cut where
  f := 493
  n := 98003
  args := [(.slice (some ⟨87330, 0, none⟩) 80 FULL), (.int .i64 66), (.agg #[(.string ⟨#[]⟩), (.int .i64 20), (.int .i64 30000), (.int .i64 500), (.int .i64 500)])]
  pre := [(87330, awb9)]
  v := (.int .i64 30000)
  post := [(87330, awb9)]
  n2 := 98274
  frame := [89581, 89590, 87502, 87495, 79350, 79585, 79362, 85243, 85244, 85245, 87484, 85202, 85203, 85204, 85205, 85215, 82482, 82483, 82484, 82485, 10236, 82431, 79054, 79371, 79377, 77594, 8377, 8957, 10238, 10227, 10242, 10240, 77592, 82432, 82440, 82451, 79609, 79646, 82419, 76573, 77542, 77603, 79604, 79053, 76568, 10245, 76506, 76518, 76531]
def awk181_h : Hook := (fun _ _ _ _ => none)
/-- railplan/dynamics.limit -/
def awk182 : Cut where
  f := 493
  n := 98328
  args := [(.slice (some ⟨87330, 0, none⟩) 80 FULL), (.int .i64 67), (.agg #[(.string ⟨#[]⟩), (.int .i64 20), (.int .i64 30000), (.int .i64 500), (.int .i64 500)])]
  pre := [(87330, awb9)]
  v := (.int .i64 30000)
  post := [(87330, awb9)]
  n2 := 98599
  frame := [89581, 89590, 87502, 87495, 79350, 79585, 79362, 85243, 85244, 85245, 87484, 85202, 85203, 85204, 85205, 85215, 82482, 82483, 82484, 82485, 10236, 82431, 79054, 79371, 79377, 77594, 8377, 8957, 10238, 10227, 10242, 10240, 77592, 82432, 82440, 82451, 79609, 79646, 82419, 76573, 77542, 77603, 79604, 79053, 76568, 10245, 76506, 76518, 76531]
def awk182_h : Hook := (fun _ _ _ _ => none)
/-- railplan/dynamics.limit -/
def awk183 : Cut where
  f := 493
  n := 98653
  args := [(.slice (some ⟨87330, 0, none⟩) 80 FULL), (.int .i64 68), (.agg #[(.string ⟨#[]⟩), (.int .i64 20), (.int .i64 30000), (.int .i64 500), (.int .i64 500)])]
  pre := [(87330, awb9)]
  v := (.int .i64 30000)
  post := [(87330, awb9)]
  n2 := 98924
  frame := [89581, 89590, 87502, 87495, 79350, 79585, 79362, 85243, 85244, 85245, 87484, 85202, 85203, 85204, 85205, 85215, 82482, 82483, 82484, 82485, 10236, 82431, 79054, 79371, 79377, 77594, 8377, 8957, 10238, 10227, 10242, 10240, 77592, 82432, 82440, 82451, 79609, 79646, 82419, 76573, 77542, 77603, 79604, 79053, 76568, 10245, 76506, 76518, 76531]
def awk183_h : Hook := (fun _ _ _ _ => none)
/-- railplan/dynamics.limit -/
def awk184 : Cut where
  f := 493
  n := 98978
  args := [(.slice (some ⟨87330, 0, none⟩) 80 FULL), (.int .i64 69), (.agg #[(.string ⟨#[]⟩), (.int .i64 20), (.int .i64 30000), (.int .i64 500), (.int .i64 500)])]
  pre := [(87330, awb9)]
  v := (.int .i64 30000)
  post := [(87330, awb9)]
  n2 := 99249
  frame := [89581, 89590, 87502, 87495, 79350, 79585, 79362, 85243, 85244, 85245, 87484, 85202, 85203, 85204, 85205, 85215, 82482, 82483, 82484, 82485, 10236, 82431, 79054, 79371, 79377, 77594, 8377, 8957, 10238, 10227, 10242, 10240, 77592, 82432, 82440, 82451, 79609, 79646, 82419, 76573, 77542, 77603, 79604, 79053, 76568, 10245, 76506, 76518, 76531]
def awk184_h : Hook := (fun _ _ _ _ => none)
/-- railplan/dynamics.limit -/
def awk185 : Cut where
  f := 493
  n := 99303
  args := [(.slice (some ⟨87330, 0, none⟩) 80 FULL), (.int .i64 70), (.agg #[(.string ⟨#[]⟩), (.int .i64 20), (.int .i64 30000), (.int .i64 500), (.int .i64 500)])]
  pre := [(87330, awb9)]
  v := (.int .i64 30000)
  post := [(87330, awb9)]
  n2 := 99574
  frame := [89581, 89590, 87502, 87495, 79350, 79585, 79362, 85243, 85244, 85245, 87484, 85202, 85203, 85204, 85205, 85215, 82482, 82483, 82484, 82485, 10236, 82431, 79054, 79371, 79377, 77594, 8377, 8957, 10238, 10227, 10242, 10240, 77592, 82432, 82440, 82451, 79609, 79646, 82419, 76573, 77542, 77603, 79604, 79053, 76568, 10245, 76506, 76518, 76531]
def awk185_h : Hook := (fun _ _ _ _ => none)
/-- railplan/dynamics.limit -/
def awk186 : Cut where
  f := 493
  n := 99628
  args := [(.slice (some ⟨87330, 0, none⟩) 80 FULL), (.int .i64 71), (.agg #[(.string ⟨#[]⟩), (.int .i64 20), (.int .i64 30000), (.int .i64 500), (.int .i64 500)])]
  pre := [(87330, awb9)]
  v := (.int .i64 30000)
  post := [(87330, awb9)]
  n2 := 99899
  frame := [89581, 89590, 87502, 87495, 79350, 79585, 79362, 85243, 85244, 85245, 87484, 85202, 85203, 85204, 85205, 85215, 82482, 82483, 82484, 82485, 10236, 82431, 79054, 79371, 79377, 77594, 8377, 8957, 10238, 10227, 10242, 10240, 77592, 82432, 82440, 82451, 79609, 79646, 82419, 76573, 77542, 77603, 79604, 79053, 76568, 10245, 76506, 76518, 76531]
def awk186_h : Hook := (fun _ _ _ _ => none)
/-- railplan/dynamics.limit -/
def awk187 : Cut where
  f := 493
  n := 99953
  args := [(.slice (some ⟨87330, 0, none⟩) 80 FULL), (.int .i64 72), (.agg #[(.string ⟨#[]⟩), (.int .i64 20), (.int .i64 30000), (.int .i64 500), (.int .i64 500)])]
  pre := [(87330, awb9)]
  v := (.int .i64 30000)
  post := [(87330, awb9)]
  n2 := 100224
  frame := [89581, 89590, 87502, 87495, 79350, 79585, 79362, 85243, 85244, 85245, 87484, 85202, 85203, 85204, 85205, 85215, 82482, 82483, 82484, 82485, 10236, 82431, 79054, 79371, 79377, 77594, 8377, 8957, 10238, 10227, 10242, 10240, 77592, 82432, 82440, 82451, 79609, 79646, 82419, 76573, 77542, 77603, 79604, 79053, 76568, 10245, 76506, 76518, 76531]
def awk187_h : Hook := (fun _ _ _ _ => none)
/-- railplan/dynamics.limit -/
def awk188 : Cut where
  f := 493
  n := 100278
  args := [(.slice (some ⟨87330, 0, none⟩) 80 FULL), (.int .i64 73), (.agg #[(.string ⟨#[]⟩), (.int .i64 20), (.int .i64 30000), (.int .i64 500), (.int .i64 500)])]
  pre := [(87330, awb9)]
  v := (.int .i64 30000)
  post := [(87330, awb9)]
  n2 := 100549
  frame := [89581, 89590, 87502, 87495, 79350, 79585, 79362, 85243, 85244, 85245, 87484, 85202, 85203, 85204, 85205, 85215, 82482, 82483, 82484, 82485, 10236, 82431, 79054, 79371, 79377, 77594, 8377, 8957, 10238, 10227, 10242, 10240, 77592, 82432, 82440, 82451, 79609, 79646, 82419, 76573, 77542, 77603, 79604, 79053, 76568, 10245, 76506, 76518, 76531]
def awk188_h : Hook := (fun _ _ _ _ => none)
/-- railplan/dynamics.limit -/
def awk189 : Cut where
  f := 493
  n := 100603
  args := [(.slice (some ⟨87330, 0, none⟩) 80 FULL), (.int .i64 74), (.agg #[(.string ⟨#[]⟩), (.int .i64 20), (.int .i64 30000), (.int .i64 500), (.int .i64 500)])]
  pre := [(87330, awb9)]
  v := (.int .i64 30000)
  post := [(87330, awb9)]
  n2 := 100874
  frame := [89581, 89590, 87502, 87495, 79350, 79585, 79362, 85243, 85244, 85245, 87484, 85202, 85203, 85204, 85205, 85215, 82482, 82483, 82484, 82485, 10236, 82431, 79054, 79371, 79377, 77594, 8377, 8957, 10238, 10227, 10242, 10240, 77592, 82432, 82440, 82451, 79609, 79646, 82419, 76573, 77542, 77603, 79604, 79053, 76568, 10245, 76506, 76518, 76531]
def awk189_h : Hook := (fun _ _ _ _ => none)
/-- railplan/dynamics.limit -/
def awk190 : Cut where
  f := 493
  n := 100928
  args := [(.slice (some ⟨87330, 0, none⟩) 80 FULL), (.int .i64 75), (.agg #[(.string ⟨#[]⟩), (.int .i64 20), (.int .i64 30000), (.int .i64 500), (.int .i64 500)])]
  pre := [(87330, awb9)]
  v := (.int .i64 30000)
  post := [(87330, awb9)]
  n2 := 101199
  frame := [89581, 89590, 87502, 87495, 79350, 79585, 79362, 85243, 85244, 85245, 87484, 85202, 85203, 85204, 85205, 85215, 82482, 82483, 82484, 82485, 10236, 82431, 79054, 79371, 79377, 77594, 8377, 8957, 10238, 10227, 10242, 10240, 77592, 82432, 82440, 82451, 79609, 79646, 82419, 76573, 77542, 77603, 79604, 79053, 76568, 10245, 76506, 76518, 76531]
def awk190_h : Hook := (fun _ _ _ _ => none)
/-- railplan/dynamics.limit -/
def awk191 : Cut where
  f := 493
  n := 101253
  args := [(.slice (some ⟨87330, 0, none⟩) 80 FULL), (.int .i64 76), (.agg #[(.string ⟨#[]⟩), (.int .i64 20), (.int .i64 30000), (.int .i64 500), (.int .i64 500)])]
  pre := [(87330, awb9)]
  v := (.int .i64 30000)
  post := [(87330, awb9)]
  n2 := 101524
  frame := [89581, 89590, 87502, 87495, 79350, 79585, 79362, 85243, 85244, 85245, 87484, 85202, 85203, 85204, 85205, 85215, 82482, 82483, 82484, 82485, 10236, 82431, 79054, 79371, 79377, 77594, 8377, 8957, 10238, 10227, 10242, 10240, 77592, 82432, 82440, 82451, 79609, 79646, 82419, 76573, 77542, 77603, 79604, 79053, 76568, 10245, 76506, 76518, 76531]
def awk191_h : Hook := (fun _ _ _ _ => none)
/-- railplan/dynamics.limit -/
def awk192 : Cut where
  f := 493
  n := 101578
  args := [(.slice (some ⟨87330, 0, none⟩) 80 FULL), (.int .i64 77), (.agg #[(.string ⟨#[]⟩), (.int .i64 20), (.int .i64 30000), (.int .i64 500), (.int .i64 500)])]
  pre := [(87330, awb9)]
  v := (.int .i64 30000)
  post := [(87330, awb9)]
  n2 := 101849
  frame := [89581, 89590, 87502, 87495, 79350, 79585, 79362, 85243, 85244, 85245, 87484, 85202, 85203, 85204, 85205, 85215, 82482, 82483, 82484, 82485, 10236, 82431, 79054, 79371, 79377, 77594, 8377, 8957, 10238, 10227, 10242, 10240, 77592, 82432, 82440, 82451, 79609, 79646, 82419, 76573, 77542, 77603, 79604, 79053, 76568, 10245, 76506, 76518, 76531]
def awk192_h : Hook := (fun _ _ _ _ => none)
/-- railplan/dynamics.limit -/
def awk193 : Cut where
  f := 493
  n := 101903
  args := [(.slice (some ⟨87330, 0, none⟩) 80 FULL), (.int .i64 78), (.agg #[(.string ⟨#[]⟩), (.int .i64 20), (.int .i64 30000), (.int .i64 500), (.int .i64 500)])]
  pre := [(87330, awb9)]
  v := (.int .i64 30000)
  post := [(87330, awb9)]
  n2 := 102174
  frame := [89581, 89590, 87502, 87495, 79350, 79585, 79362, 85243, 85244, 85245, 87484, 85202, 85203, 85204, 85205, 85215, 82482, 82483, 82484, 82485, 10236, 82431, 79054, 79371, 79377, 77594, 8377, 8957, 10238, 10227, 10242, 10240, 77592, 82432, 82440, 82451, 79609, 79646, 82419, 76573, 77542, 77603, 79604, 79053, 76568, 10245, 76506, 76518, 76531]
def awk193_h : Hook := (fun _ _ _ _ => none)
/-- railplan/dynamics.limit -/
def awk194 : Cut where
  f := 493
  n := 102228
  args := [(.slice (some ⟨87330, 0, none⟩) 80 FULL), (.int .i64 79), (.agg #[(.string ⟨#[]⟩), (.int .i64 20), (.int .i64 30000), (.int .i64 500), (.int .i64 500)])]
  pre := [(87330, awb9)]
  v := (.int .i64 30000)
  post := [(87330, awb9)]
  n2 := 102499
  frame := [89581, 89590, 87502, 87495, 79350, 79585, 79362, 85243, 85244, 85245, 87484, 85202, 85203, 85204, 85205, 85215, 82482, 82483, 82484, 82485, 10236, 82431, 79054, 79371, 79377, 77594, 8377, 8957, 10238, 10227, 10242, 10240, 77592, 82432, 82440, 82451, 79609, 79646, 82419, 76573, 77542, 77603, 79604, 79053, 76568, 10245, 76506, 76518, 76531]
def awk194_h : Hook := (fun _ _ _ _ => none)
def awb15 : EBlk := .cells [(.int .i64 0), (.int .i64 10000000), (.int .i64 20000000), (.int .i64 30000000), (.int .i64 40000000), (.int .i64 50000000), (.int .i64 60000000), (.int .i64 70000000), (.int .i64 80000000), (.int .i64 90000000), (.int .i64 100000000), (.int .i64 110000000), (.int .i64 120000000), (.int .i64 130000000), (.int .i64 140000000), (.int .i64 150000000), (.int .i64 160000000), (.int .i64 170000000), (.int .i64 180000000), (.int .i64 190000000), (.int .i64 200000000), (.int .i64 190000000), (.int .i64 180000000), (.int .i64 170000000), (.int .i64 160000000), (.int .i64 150000000), (.int .i64 140000000), (.int .i64 130000000), (.int .i64 120000000), (.int .i64 110000000), (.int .i64 100000000), (.int .i64 90000000), (.int .i64 80000000), (.int .i64 70000000), (.int .i64 60000000), (.int .i64 50000000), (.int .i64 40000000), (.int .i64 30000000), (.int .i64 20000000), (.int .i64 10000000), (.int .i64 0)] 3 1
/-- railplan/dynamics.squares -/
def awk195 : Cut where
  f := 488
  n := 89581
  args := [(.slice (some ⟨87330, 0, none⟩) 80 FULL), (.int .i64 40), (.agg #[(.string ⟨#[]⟩), (.int .i64 20), (.int .i64 30000), (.int .i64 500), (.int .i64 500)])]
  pre := [(87330, awb9)]
  v := (.slice (some ⟨89590, 0, none⟩) 41 41)
  post := [(89590, awb15), (87330, awb9)]
  n2 := 104312
  frame := [87502, 87495, 79350, 79585, 79362, 85243, 85244, 85245, 87484, 85202, 85203, 85204, 85205, 85215, 82482, 82483, 82484, 82485, 10236, 82431, 79054, 79371, 79377, 77594, 8377, 8957, 10238, 10227, 10242, 10240, 77592, 82432, 82440, 82451, 79609, 79646, 82419, 76573, 77542, 77603, 79604, 79053, 76568, 10245, 76506, 76518, 76531]
def awk195_h : Hook := (cutHook awk155 (cutHook awk156 (cutHook awk157 (cutHook awk158 (cutHook awk159 (cutHook awk160 (cutHook awk161 (cutHook awk162 (cutHook awk163 (cutHook awk164 (cutHook awk165 (cutHook awk166 (cutHook awk167 (cutHook awk168 (cutHook awk169 (cutHook awk170 (cutHook awk171 (cutHook awk172 (cutHook awk173 (cutHook awk174 (cutHook awk175 (cutHook awk176 (cutHook awk177 (cutHook awk178 (cutHook awk179 (cutHook awk180 (cutHook awk181 (cutHook awk182 (cutHook awk183 (cutHook awk184 (cutHook awk185 (cutHook awk186 (cutHook awk187 (cutHook awk188 (cutHook awk189 (cutHook awk190 (cutHook awk191 (cutHook awk192 (cutHook awk193 (cutHook awk194 (fun _ _ _ _ => none)))))))))))))))))))))))))))))))))))))))))
/-- railplan/arith.Sqrt -/
def awk196 : Cut where
  f := 489
  n := 104326
  args := [(.int .i64 0)]
  pre := []
  v := (.int .i64 0)
  post := []
  n2 := 104781
  frame := [87330, 87502, 89590, 87495, 79350, 79585, 79362, 85243, 85244, 85245, 87484, 85202, 85203, 85204, 85205, 85215, 82482, 82483, 82484, 82485, 10236, 82431, 79054, 79371, 79377, 77594, 8377, 8957, 10238, 10227, 10242, 10240, 77592, 82432, 82440, 82451, 79609, 79646, 82419, 76573, 77542, 77603, 79604, 79053, 76568, 10245, 76506, 76518, 76531]
def awk196_h : Hook := (fun _ _ _ _ => none)
/-- railplan/arith.Sqrt -/
def awk197 : Cut where
  f := 489
  n := 104795
  args := [(.int .i64 10000000)]
  pre := []
  v := (.int .i64 3162)
  post := []
  n2 := 105262
  frame := [87330, 87502, 89590, 87495, 79350, 79585, 79362, 85243, 85244, 85245, 87484, 85202, 85203, 85204, 85205, 85215, 82482, 82483, 82484, 82485, 10236, 82431, 79054, 79371, 79377, 77594, 8377, 8957, 10238, 10227, 10242, 10240, 77592, 82432, 82440, 82451, 79609, 79646, 82419, 76573, 77542, 77603, 79604, 79053, 76568, 10245, 76506, 76518, 76531]
def awk197_h : Hook := (fun _ _ _ _ => none)
/-- railplan/arith.Sqrt -/
def awk198 : Cut where
  f := 489
  n := 105276
  args := [(.int .i64 20000000)]
  pre := []
  v := (.int .i64 4472)
  post := []
  n2 := 105743
  frame := [87330, 87502, 89590, 87495, 79350, 79585, 79362, 85243, 85244, 85245, 87484, 85202, 85203, 85204, 85205, 85215, 82482, 82483, 82484, 82485, 10236, 82431, 79054, 79371, 79377, 77594, 8377, 8957, 10238, 10227, 10242, 10240, 77592, 82432, 82440, 82451, 79609, 79646, 82419, 76573, 77542, 77603, 79604, 79053, 76568, 10245, 76506, 76518, 76531]
def awk198_h : Hook := (fun _ _ _ _ => none)
/-- railplan/arith.Sqrt -/
def awk199 : Cut where
  f := 489
  n := 105757
  args := [(.int .i64 30000000)]
  pre := []
  v := (.int .i64 5477)
  post := []
  n2 := 106226
  frame := [87330, 87502, 89590, 87495, 79350, 79585, 79362, 85243, 85244, 85245, 87484, 85202, 85203, 85204, 85205, 85215, 82482, 82483, 82484, 82485, 10236, 82431, 79054, 79371, 79377, 77594, 8377, 8957, 10238, 10227, 10242, 10240, 77592, 82432, 82440, 82451, 79609, 79646, 82419, 76573, 77542, 77603, 79604, 79053, 76568, 10245, 76506, 76518, 76531]
def awk199_h : Hook := (fun _ _ _ _ => none)
/-- railplan/arith.Sqrt -/
def awk200 : Cut where
  f := 489
  n := 106240
  args := [(.int .i64 40000000)]
  pre := []
  v := (.int .i64 6324)
  post := []
  n2 := 106707
  frame := [87330, 87502, 89590, 87495, 79350, 79585, 79362, 85243, 85244, 85245, 87484, 85202, 85203, 85204, 85205, 85215, 82482, 82483, 82484, 82485, 10236, 82431, 79054, 79371, 79377, 77594, 8377, 8957, 10238, 10227, 10242, 10240, 77592, 82432, 82440, 82451, 79609, 79646, 82419, 76573, 77542, 77603, 79604, 79053, 76568, 10245, 76506, 76518, 76531]
def awk200_h : Hook := (fun _ _ _ _ => none)
/-- railplan/arith.Sqrt -/
def awk201 : Cut where
  f := 489
  n := 106721
  args := [(.int .i64 50000000)]
  pre := []
  v := (.int .i64 7071)
  post := []
  n2 := 107196
  frame := [87330, 87502, 89590, 87495, 79350, 79585, 79362, 85243, 85244, 85245, 87484, 85202, 85203, 85204, 85205, 85215, 82482, 82483, 82484, 82485, 10236, 82431, 79054, 79371, 79377, 77594, 8377, 8957, 10238, 10227, 10242, 10240, 77592, 82432, 82440, 82451, 79609, 79646, 82419, 76573, 77542, 77603, 79604, 79053, 76568, 10245, 76506, 76518, 76531]
def awk201_h : Hook := (fun _ _ _ _ => none)
/-- railplan/arith.Sqrt -/
def awk202 : Cut where
  f := 489
  n := 107210
  args := [(.int .i64 60000000)]
  pre := []
  v := (.int .i64 7745)
  post := []
  n2 := 107677
  frame := [87330, 87502, 89590, 87495, 79350, 79585, 79362, 85243, 85244, 85245, 87484, 85202, 85203, 85204, 85205, 85215, 82482, 82483, 82484, 82485, 10236, 82431, 79054, 79371, 79377, 77594, 8377, 8957, 10238, 10227, 10242, 10240, 77592, 82432, 82440, 82451, 79609, 79646, 82419, 76573, 77542, 77603, 79604, 79053, 76568, 10245, 76506, 76518, 76531]
def awk202_h : Hook := (fun _ _ _ _ => none)
/-- railplan/arith.Sqrt -/
def awk203 : Cut where
  f := 489
  n := 107691
  args := [(.int .i64 70000000)]
  pre := []
  v := (.int .i64 8366)
  post := []
  n2 := 108158
  frame := [87330, 87502, 89590, 87495, 79350, 79585, 79362, 85243, 85244, 85245, 87484, 85202, 85203, 85204, 85205, 85215, 82482, 82483, 82484, 82485, 10236, 82431, 79054, 79371, 79377, 77594, 8377, 8957, 10238, 10227, 10242, 10240, 77592, 82432, 82440, 82451, 79609, 79646, 82419, 76573, 77542, 77603, 79604, 79053, 76568, 10245, 76506, 76518, 76531]
def awk203_h : Hook := (fun _ _ _ _ => none)
/-- railplan/arith.Sqrt -/
def awk204 : Cut where
  f := 489
  n := 108172
  args := [(.int .i64 80000000)]
  pre := []
  v := (.int .i64 8944)
  post := []
  n2 := 108639
  frame := [87330, 87502, 89590, 87495, 79350, 79585, 79362, 85243, 85244, 85245, 87484, 85202, 85203, 85204, 85205, 85215, 82482, 82483, 82484, 82485, 10236, 82431, 79054, 79371, 79377, 77594, 8377, 8957, 10238, 10227, 10242, 10240, 77592, 82432, 82440, 82451, 79609, 79646, 82419, 76573, 77542, 77603, 79604, 79053, 76568, 10245, 76506, 76518, 76531]
def awk204_h : Hook := (fun _ _ _ _ => none)
/-- railplan/arith.Sqrt -/
def awk205 : Cut where
  f := 489
  n := 108653
  args := [(.int .i64 90000000)]
  pre := []
  v := (.int .i64 9486)
  post := []
  n2 := 109120
  frame := [87330, 87502, 89590, 87495, 79350, 79585, 79362, 85243, 85244, 85245, 87484, 85202, 85203, 85204, 85205, 85215, 82482, 82483, 82484, 82485, 10236, 82431, 79054, 79371, 79377, 77594, 8377, 8957, 10238, 10227, 10242, 10240, 77592, 82432, 82440, 82451, 79609, 79646, 82419, 76573, 77542, 77603, 79604, 79053, 76568, 10245, 76506, 76518, 76531]
def awk205_h : Hook := (fun _ _ _ _ => none)
/-- railplan/arith.Sqrt -/
def awk206 : Cut where
  f := 489
  n := 109134
  args := [(.int .i64 100000000)]
  pre := []
  v := (.int .i64 10000)
  post := []
  n2 := 109599
  frame := [87330, 87502, 89590, 87495, 79350, 79585, 79362, 85243, 85244, 85245, 87484, 85202, 85203, 85204, 85205, 85215, 82482, 82483, 82484, 82485, 10236, 82431, 79054, 79371, 79377, 77594, 8377, 8957, 10238, 10227, 10242, 10240, 77592, 82432, 82440, 82451, 79609, 79646, 82419, 76573, 77542, 77603, 79604, 79053, 76568, 10245, 76506, 76518, 76531]
def awk206_h : Hook := (fun _ _ _ _ => none)
/-- railplan/arith.Sqrt -/
def awk207 : Cut where
  f := 489
  n := 109613
  args := [(.int .i64 110000000)]
  pre := []
  v := (.int .i64 10488)
  post := []
  n2 := 110082
  frame := [87330, 87502, 89590, 87495, 79350, 79585, 79362, 85243, 85244, 85245, 87484, 85202, 85203, 85204, 85205, 85215, 82482, 82483, 82484, 82485, 10236, 82431, 79054, 79371, 79377, 77594, 8377, 8957, 10238, 10227, 10242, 10240, 77592, 82432, 82440, 82451, 79609, 79646, 82419, 76573, 77542, 77603, 79604, 79053, 76568, 10245, 76506, 76518, 76531]
def awk207_h : Hook := (fun _ _ _ _ => none)
/-- railplan/arith.Sqrt -/
def awk208 : Cut where
  f := 489
  n := 110096
  args := [(.int .i64 120000000)]
  pre := []
  v := (.int .i64 10954)
  post := []
  n2 := 110565
  frame := [87330, 87502, 89590, 87495, 79350, 79585, 79362, 85243, 85244, 85245, 87484, 85202, 85203, 85204, 85205, 85215, 82482, 82483, 82484, 82485, 10236, 82431, 79054, 79371, 79377, 77594, 8377, 8957, 10238, 10227, 10242, 10240, 77592, 82432, 82440, 82451, 79609, 79646, 82419, 76573, 77542, 77603, 79604, 79053, 76568, 10245, 76506, 76518, 76531]
def awk208_h : Hook := (fun _ _ _ _ => none)
/-- railplan/arith.Sqrt -/
def awk209 : Cut where
  f := 489
  n := 110579
  args := [(.int .i64 130000000)]
  pre := []
  v := (.int .i64 11401)
  post := []
  n2 := 111046
  frame := [87330, 87502, 89590, 87495, 79350, 79585, 79362, 85243, 85244, 85245, 87484, 85202, 85203, 85204, 85205, 85215, 82482, 82483, 82484, 82485, 10236, 82431, 79054, 79371, 79377, 77594, 8377, 8957, 10238, 10227, 10242, 10240, 77592, 82432, 82440, 82451, 79609, 79646, 82419, 76573, 77542, 77603, 79604, 79053, 76568, 10245, 76506, 76518, 76531]
def awk209_h : Hook := (fun _ _ _ _ => none)
/-- railplan/arith.Sqrt -/
def awk210 : Cut where
  f := 489
  n := 111060
  args := [(.int .i64 140000000)]
  pre := []
  v := (.int .i64 11832)
  post := []
  n2 := 111529
  frame := [87330, 87502, 89590, 87495, 79350, 79585, 79362, 85243, 85244, 85245, 87484, 85202, 85203, 85204, 85205, 85215, 82482, 82483, 82484, 82485, 10236, 82431, 79054, 79371, 79377, 77594, 8377, 8957, 10238, 10227, 10242, 10240, 77592, 82432, 82440, 82451, 79609, 79646, 82419, 76573, 77542, 77603, 79604, 79053, 76568, 10245, 76506, 76518, 76531]
def awk210_h : Hook := (fun _ _ _ _ => none)
/-- railplan/arith.Sqrt -/
def awk211 : Cut where
  f := 489
  n := 111543
  args := [(.int .i64 150000000)]
  pre := []
  v := (.int .i64 12247)
  post := []
  n2 := 112020
  frame := [87330, 87502, 89590, 87495, 79350, 79585, 79362, 85243, 85244, 85245, 87484, 85202, 85203, 85204, 85205, 85215, 82482, 82483, 82484, 82485, 10236, 82431, 79054, 79371, 79377, 77594, 8377, 8957, 10238, 10227, 10242, 10240, 77592, 82432, 82440, 82451, 79609, 79646, 82419, 76573, 77542, 77603, 79604, 79053, 76568, 10245, 76506, 76518, 76531]
def awk211_h : Hook := (fun _ _ _ _ => none)
/-- railplan/arith.Sqrt -/
def awk212 : Cut where
  f := 489
  n := 112034
  args := [(.int .i64 160000000)]
  pre := []
  v := (.int .i64 12649)
  post := []
  n2 := 112503
  frame := [87330, 87502, 89590, 87495, 79350, 79585, 79362, 85243, 85244, 85245, 87484, 85202, 85203, 85204, 85205, 85215, 82482, 82483, 82484, 82485, 10236, 82431, 79054, 79371, 79377, 77594, 8377, 8957, 10238, 10227, 10242, 10240, 77592, 82432, 82440, 82451, 79609, 79646, 82419, 76573, 77542, 77603, 79604, 79053, 76568, 10245, 76506, 76518, 76531]
def awk212_h : Hook := (fun _ _ _ _ => none)
/-- railplan/arith.Sqrt -/
def awk213 : Cut where
  f := 489
  n := 112517
  args := [(.int .i64 170000000)]
  pre := []
  v := (.int .i64 13038)
  post := []
  n2 := 112990
  frame := [87330, 87502, 89590, 87495, 79350, 79585, 79362, 85243, 85244, 85245, 87484, 85202, 85203, 85204, 85205, 85215, 82482, 82483, 82484, 82485, 10236, 82431, 79054, 79371, 79377, 77594, 8377, 8957, 10238, 10227, 10242, 10240, 77592, 82432, 82440, 82451, 79609, 79646, 82419, 76573, 77542, 77603, 79604, 79053, 76568, 10245, 76506, 76518, 76531]
def awk213_h : Hook := (fun _ _ _ _ => none)
/-- railplan/arith.Sqrt -/
def awk214 : Cut where
  f := 489
  n := 113004
  args := [(.int .i64 180000000)]
  pre := []
  v := (.int .i64 13416)
  post := []
  n2 := 113471
  frame := [87330, 87502, 89590, 87495, 79350, 79585, 79362, 85243, 85244, 85245, 87484, 85202, 85203, 85204, 85205, 85215, 82482, 82483, 82484, 82485, 10236, 82431, 79054, 79371, 79377, 77594, 8377, 8957, 10238, 10227, 10242, 10240, 77592, 82432, 82440, 82451, 79609, 79646, 82419, 76573, 77542, 77603, 79604, 79053, 76568, 10245, 76506, 76518, 76531]
def awk214_h : Hook := (fun _ _ _ _ => none)
/-- railplan/arith.Sqrt -/
def awk215 : Cut where
  f := 489
  n := 113485
  args := [(.int .i64 190000000)]
  pre := []
  v := (.int .i64 13784)
  post := []
  n2 := 113956
  frame := [87330, 87502, 89590, 87495, 79350, 79585, 79362, 85243, 85244, 85245, 87484, 85202, 85203, 85204, 85205, 85215, 82482, 82483, 82484, 82485, 10236, 82431, 79054, 79371, 79377, 77594, 8377, 8957, 10238, 10227, 10242, 10240, 77592, 82432, 82440, 82451, 79609, 79646, 82419, 76573, 77542, 77603, 79604, 79053, 76568, 10245, 76506, 76518, 76531]
def awk215_h : Hook := (fun _ _ _ _ => none)
/-- railplan/arith.Sqrt -/
def awk216 : Cut where
  f := 489
  n := 113970
  args := [(.int .i64 200000000)]
  pre := []
  v := (.int .i64 14142)
  post := []
  n2 := 114445
  frame := [87330, 87502, 89590, 87495, 79350, 79585, 79362, 85243, 85244, 85245, 87484, 85202, 85203, 85204, 85205, 85215, 82482, 82483, 82484, 82485, 10236, 82431, 79054, 79371, 79377, 77594, 8377, 8957, 10238, 10227, 10242, 10240, 77592, 82432, 82440, 82451, 79609, 79646, 82419, 76573, 77542, 77603, 79604, 79053, 76568, 10245, 76506, 76518, 76531]
def awk216_h : Hook := (fun _ _ _ _ => none)
/-- railplan/arith.Sqrt -/
def awk217 : Cut where
  f := 489
  n := 114459
  args := [(.int .i64 190000000)]
  pre := []
  v := (.int .i64 13784)
  post := []
  n2 := 114930
  frame := [87330, 87502, 89590, 87495, 79350, 79585, 79362, 85243, 85244, 85245, 87484, 85202, 85203, 85204, 85205, 85215, 82482, 82483, 82484, 82485, 10236, 82431, 79054, 79371, 79377, 77594, 8377, 8957, 10238, 10227, 10242, 10240, 77592, 82432, 82440, 82451, 79609, 79646, 82419, 76573, 77542, 77603, 79604, 79053, 76568, 10245, 76506, 76518, 76531]
def awk217_h : Hook := (fun _ _ _ _ => none)
/-- railplan/arith.Sqrt -/
def awk218 : Cut where
  f := 489
  n := 114944
  args := [(.int .i64 180000000)]
  pre := []
  v := (.int .i64 13416)
  post := []
  n2 := 115411
  frame := [87330, 87502, 89590, 87495, 79350, 79585, 79362, 85243, 85244, 85245, 87484, 85202, 85203, 85204, 85205, 85215, 82482, 82483, 82484, 82485, 10236, 82431, 79054, 79371, 79377, 77594, 8377, 8957, 10238, 10227, 10242, 10240, 77592, 82432, 82440, 82451, 79609, 79646, 82419, 76573, 77542, 77603, 79604, 79053, 76568, 10245, 76506, 76518, 76531]
def awk218_h : Hook := (fun _ _ _ _ => none)
/-- railplan/arith.Sqrt -/
def awk219 : Cut where
  f := 489
  n := 115425
  args := [(.int .i64 170000000)]
  pre := []
  v := (.int .i64 13038)
  post := []
  n2 := 115898
  frame := [87330, 87502, 89590, 87495, 79350, 79585, 79362, 85243, 85244, 85245, 87484, 85202, 85203, 85204, 85205, 85215, 82482, 82483, 82484, 82485, 10236, 82431, 79054, 79371, 79377, 77594, 8377, 8957, 10238, 10227, 10242, 10240, 77592, 82432, 82440, 82451, 79609, 79646, 82419, 76573, 77542, 77603, 79604, 79053, 76568, 10245, 76506, 76518, 76531]
def awk219_h : Hook := (fun _ _ _ _ => none)
/-- railplan/arith.Sqrt -/
def awk220 : Cut where
  f := 489
  n := 115912
  args := [(.int .i64 160000000)]
  pre := []
  v := (.int .i64 12649)
  post := []
  n2 := 116381
  frame := [87330, 87502, 89590, 87495, 79350, 79585, 79362, 85243, 85244, 85245, 87484, 85202, 85203, 85204, 85205, 85215, 82482, 82483, 82484, 82485, 10236, 82431, 79054, 79371, 79377, 77594, 8377, 8957, 10238, 10227, 10242, 10240, 77592, 82432, 82440, 82451, 79609, 79646, 82419, 76573, 77542, 77603, 79604, 79053, 76568, 10245, 76506, 76518, 76531]
def awk220_h : Hook := (fun _ _ _ _ => none)
/-- railplan/arith.Sqrt -/
def awk221 : Cut where
  f := 489
  n := 116395
  args := [(.int .i64 150000000)]
  pre := []
  v := (.int .i64 12247)
  post := []
  n2 := 116872
  frame := [87330, 87502, 89590, 87495, 79350, 79585, 79362, 85243, 85244, 85245, 87484, 85202, 85203, 85204, 85205, 85215, 82482, 82483, 82484, 82485, 10236, 82431, 79054, 79371, 79377, 77594, 8377, 8957, 10238, 10227, 10242, 10240, 77592, 82432, 82440, 82451, 79609, 79646, 82419, 76573, 77542, 77603, 79604, 79053, 76568, 10245, 76506, 76518, 76531]
def awk221_h : Hook := (fun _ _ _ _ => none)
/-- railplan/arith.Sqrt -/
def awk222 : Cut where
  f := 489
  n := 116886
  args := [(.int .i64 140000000)]
  pre := []
  v := (.int .i64 11832)
  post := []
  n2 := 117355
  frame := [87330, 87502, 89590, 87495, 79350, 79585, 79362, 85243, 85244, 85245, 87484, 85202, 85203, 85204, 85205, 85215, 82482, 82483, 82484, 82485, 10236, 82431, 79054, 79371, 79377, 77594, 8377, 8957, 10238, 10227, 10242, 10240, 77592, 82432, 82440, 82451, 79609, 79646, 82419, 76573, 77542, 77603, 79604, 79053, 76568, 10245, 76506, 76518, 76531]
def awk222_h : Hook := (fun _ _ _ _ => none)
/-- railplan/arith.Sqrt -/
def awk223 : Cut where
  f := 489
  n := 117369
  args := [(.int .i64 130000000)]
  pre := []
  v := (.int .i64 11401)
  post := []
  n2 := 117836
  frame := [87330, 87502, 89590, 87495, 79350, 79585, 79362, 85243, 85244, 85245, 87484, 85202, 85203, 85204, 85205, 85215, 82482, 82483, 82484, 82485, 10236, 82431, 79054, 79371, 79377, 77594, 8377, 8957, 10238, 10227, 10242, 10240, 77592, 82432, 82440, 82451, 79609, 79646, 82419, 76573, 77542, 77603, 79604, 79053, 76568, 10245, 76506, 76518, 76531]
def awk223_h : Hook := (fun _ _ _ _ => none)
/-- railplan/arith.Sqrt -/
def awk224 : Cut where
  f := 489
  n := 117850
  args := [(.int .i64 120000000)]
  pre := []
  v := (.int .i64 10954)
  post := []
  n2 := 118319
  frame := [87330, 87502, 89590, 87495, 79350, 79585, 79362, 85243, 85244, 85245, 87484, 85202, 85203, 85204, 85205, 85215, 82482, 82483, 82484, 82485, 10236, 82431, 79054, 79371, 79377, 77594, 8377, 8957, 10238, 10227, 10242, 10240, 77592, 82432, 82440, 82451, 79609, 79646, 82419, 76573, 77542, 77603, 79604, 79053, 76568, 10245, 76506, 76518, 76531]
def awk224_h : Hook := (fun _ _ _ _ => none)
/-- railplan/arith.Sqrt -/
def awk225 : Cut where
  f := 489
  n := 118333
  args := [(.int .i64 110000000)]
  pre := []
  v := (.int .i64 10488)
  post := []
  n2 := 118802
  frame := [87330, 87502, 89590, 87495, 79350, 79585, 79362, 85243, 85244, 85245, 87484, 85202, 85203, 85204, 85205, 85215, 82482, 82483, 82484, 82485, 10236, 82431, 79054, 79371, 79377, 77594, 8377, 8957, 10238, 10227, 10242, 10240, 77592, 82432, 82440, 82451, 79609, 79646, 82419, 76573, 77542, 77603, 79604, 79053, 76568, 10245, 76506, 76518, 76531]
def awk225_h : Hook := (fun _ _ _ _ => none)
/-- railplan/arith.Sqrt -/
def awk226 : Cut where
  f := 489
  n := 118816
  args := [(.int .i64 100000000)]
  pre := []
  v := (.int .i64 10000)
  post := []
  n2 := 119281
  frame := [87330, 87502, 89590, 87495, 79350, 79585, 79362, 85243, 85244, 85245, 87484, 85202, 85203, 85204, 85205, 85215, 82482, 82483, 82484, 82485, 10236, 82431, 79054, 79371, 79377, 77594, 8377, 8957, 10238, 10227, 10242, 10240, 77592, 82432, 82440, 82451, 79609, 79646, 82419, 76573, 77542, 77603, 79604, 79053, 76568, 10245, 76506, 76518, 76531]
def awk226_h : Hook := (fun _ _ _ _ => none)
/-- railplan/arith.Sqrt -/
def awk227 : Cut where
  f := 489
  n := 119295
  args := [(.int .i64 90000000)]
  pre := []
  v := (.int .i64 9486)
  post := []
  n2 := 119762
  frame := [87330, 87502, 89590, 87495, 79350, 79585, 79362, 85243, 85244, 85245, 87484, 85202, 85203, 85204, 85205, 85215, 82482, 82483, 82484, 82485, 10236, 82431, 79054, 79371, 79377, 77594, 8377, 8957, 10238, 10227, 10242, 10240, 77592, 82432, 82440, 82451, 79609, 79646, 82419, 76573, 77542, 77603, 79604, 79053, 76568, 10245, 76506, 76518, 76531]
def awk227_h : Hook := (fun _ _ _ _ => none)
/-- railplan/arith.Sqrt -/
def awk228 : Cut where
  f := 489
  n := 119776
  args := [(.int .i64 80000000)]
  pre := []
  v := (.int .i64 8944)
  post := []
  n2 := 120243
  frame := [87330, 87502, 89590, 87495, 79350, 79585, 79362, 85243, 85244, 85245, 87484, 85202, 85203, 85204, 85205, 85215, 82482, 82483, 82484, 82485, 10236, 82431, 79054, 79371, 79377, 77594, 8377, 8957, 10238, 10227, 10242, 10240, 77592, 82432, 82440, 82451, 79609, 79646, 82419, 76573, 77542, 77603, 79604, 79053, 76568, 10245, 76506, 76518, 76531]
def awk228_h : Hook := (fun _ _ _ _ => none)
/-- railplan/arith.Sqrt -/
def awk229 : Cut where
  f := 489
  n := 120257
  args := [(.int .i64 70000000)]
  pre := []
  v := (.int .i64 8366)
  post := []
  n2 := 120724
  frame := [87330, 87502, 89590, 87495, 79350, 79585, 79362, 85243, 85244, 85245, 87484, 85202, 85203, 85204, 85205, 85215, 82482, 82483, 82484, 82485, 10236, 82431, 79054, 79371, 79377, 77594, 8377, 8957, 10238, 10227, 10242, 10240, 77592, 82432, 82440, 82451, 79609, 79646, 82419, 76573, 77542, 77603, 79604, 79053, 76568, 10245, 76506, 76518, 76531]
def awk229_h : Hook := (fun _ _ _ _ => none)
/-- railplan/arith.Sqrt -/
def awk230 : Cut where
  f := 489
  n := 120738
  args := [(.int .i64 60000000)]
  pre := []
  v := (.int .i64 7745)
  post := []
  n2 := 121205
  frame := [87330, 87502, 89590, 87495, 79350, 79585, 79362, 85243, 85244, 85245, 87484, 85202, 85203, 85204, 85205, 85215, 82482, 82483, 82484, 82485, 10236, 82431, 79054, 79371, 79377, 77594, 8377, 8957, 10238, 10227, 10242, 10240, 77592, 82432, 82440, 82451, 79609, 79646, 82419, 76573, 77542, 77603, 79604, 79053, 76568, 10245, 76506, 76518, 76531]
def awk230_h : Hook := (fun _ _ _ _ => none)
/-- railplan/arith.Sqrt -/
def awk231 : Cut where
  f := 489
  n := 121219
  args := [(.int .i64 50000000)]
  pre := []
  v := (.int .i64 7071)
  post := []
  n2 := 121694
  frame := [87330, 87502, 89590, 87495, 79350, 79585, 79362, 85243, 85244, 85245, 87484, 85202, 85203, 85204, 85205, 85215, 82482, 82483, 82484, 82485, 10236, 82431, 79054, 79371, 79377, 77594, 8377, 8957, 10238, 10227, 10242, 10240, 77592, 82432, 82440, 82451, 79609, 79646, 82419, 76573, 77542, 77603, 79604, 79053, 76568, 10245, 76506, 76518, 76531]
def awk231_h : Hook := (fun _ _ _ _ => none)
/-- railplan/arith.Sqrt -/
def awk232 : Cut where
  f := 489
  n := 121708
  args := [(.int .i64 40000000)]
  pre := []
  v := (.int .i64 6324)
  post := []
  n2 := 122175
  frame := [87330, 87502, 89590, 87495, 79350, 79585, 79362, 85243, 85244, 85245, 87484, 85202, 85203, 85204, 85205, 85215, 82482, 82483, 82484, 82485, 10236, 82431, 79054, 79371, 79377, 77594, 8377, 8957, 10238, 10227, 10242, 10240, 77592, 82432, 82440, 82451, 79609, 79646, 82419, 76573, 77542, 77603, 79604, 79053, 76568, 10245, 76506, 76518, 76531]
def awk232_h : Hook := (fun _ _ _ _ => none)
/-- railplan/arith.Sqrt -/
def awk233 : Cut where
  f := 489
  n := 122189
  args := [(.int .i64 30000000)]
  pre := []
  v := (.int .i64 5477)
  post := []
  n2 := 122658
  frame := [87330, 87502, 89590, 87495, 79350, 79585, 79362, 85243, 85244, 85245, 87484, 85202, 85203, 85204, 85205, 85215, 82482, 82483, 82484, 82485, 10236, 82431, 79054, 79371, 79377, 77594, 8377, 8957, 10238, 10227, 10242, 10240, 77592, 82432, 82440, 82451, 79609, 79646, 82419, 76573, 77542, 77603, 79604, 79053, 76568, 10245, 76506, 76518, 76531]
def awk233_h : Hook := (fun _ _ _ _ => none)
/-- railplan/arith.Sqrt -/
def awk234 : Cut where
  f := 489
  n := 122672
  args := [(.int .i64 20000000)]
  pre := []
  v := (.int .i64 4472)
  post := []
  n2 := 123139
  frame := [87330, 87502, 89590, 87495, 79350, 79585, 79362, 85243, 85244, 85245, 87484, 85202, 85203, 85204, 85205, 85215, 82482, 82483, 82484, 82485, 10236, 82431, 79054, 79371, 79377, 77594, 8377, 8957, 10238, 10227, 10242, 10240, 77592, 82432, 82440, 82451, 79609, 79646, 82419, 76573, 77542, 77603, 79604, 79053, 76568, 10245, 76506, 76518, 76531]
def awk234_h : Hook := (fun _ _ _ _ => none)
/-- railplan/arith.Sqrt -/
def awk235 : Cut where
  f := 489
  n := 123153
  args := [(.int .i64 10000000)]
  pre := []
  v := (.int .i64 3162)
  post := []
  n2 := 123620
  frame := [87330, 87502, 89590, 87495, 79350, 79585, 79362, 85243, 85244, 85245, 87484, 85202, 85203, 85204, 85205, 85215, 82482, 82483, 82484, 82485, 10236, 82431, 79054, 79371, 79377, 77594, 8377, 8957, 10238, 10227, 10242, 10240, 77592, 82432, 82440, 82451, 79609, 79646, 82419, 76573, 77542, 77603, 79604, 79053, 76568, 10245, 76506, 76518, 76531]
def awk235_h : Hook := (fun _ _ _ _ => none)
/-- railplan/arith.Sqrt -/
def awk236 : Cut where
  f := 489
  n := 123634
  args := [(.int .i64 0)]
  pre := []
  v := (.int .i64 0)
  post := []
  n2 := 124089
  frame := [87330, 87502, 89590, 87495, 79350, 79585, 79362, 85243, 85244, 85245, 87484, 85202, 85203, 85204, 85205, 85215, 82482, 82483, 82484, 82485, 10236, 82431, 79054, 79371, 79377, 77594, 8377, 8957, 10238, 10227, 10242, 10240, 77592, 82432, 82440, 82451, 79609, 79646, 82419, 76573, 77542, 77603, 79604, 79053, 76568, 10245, 76506, 76518, 76531]
def awk236_h : Hook := (fun _ _ _ _ => none)
/-- railplan/dynamics.Speeds -/
def awk237 : Cut where
  f := 472
  n := 87502
  args := [(.slice (some ⟨87330, 0, none⟩) 80 FULL), (.int .i64 40), (.agg #[(.string ⟨#[]⟩), (.int .i64 20), (.int .i64 30000), (.int .i64 500), (.int .i64 500)])]
  pre := [(87330, awb9)]
  v := (.tuple #[(.slice (some ⟨89590, 0, none⟩) 41 41), (.int .i64 0)])
  post := [(89590, awb11), (87330, awb9)]
  n2 := 124097
  frame := [87495, 79350, 79585, 79362, 85243, 85244, 85245, 87484, 85202, 85203, 85204, 85205, 85215, 82482, 82483, 82484, 82485, 10236, 82431, 79054, 79371, 79377, 77594, 8377, 8957, 10238, 10227, 10242, 10240, 77592, 82432, 82440, 82451, 79609, 79646, 82419, 76573, 77542, 77603, 79604, 79053, 76568, 10245, 76506, 76518, 76531]
def awk237_h : Hook := (cutHook awk154 (cutHook awk195 (cutHook awk196 (cutHook awk197 (cutHook awk198 (cutHook awk199 (cutHook awk200 (cutHook awk201 (cutHook awk202 (cutHook awk203 (cutHook awk204 (cutHook awk205 (cutHook awk206 (cutHook awk207 (cutHook awk208 (cutHook awk209 (cutHook awk210 (cutHook awk211 (cutHook awk212 (cutHook awk213 (cutHook awk214 (cutHook awk215 (cutHook awk216 (cutHook awk217 (cutHook awk218 (cutHook awk219 (cutHook awk220 (cutHook awk221 (cutHook awk222 (cutHook awk223 (cutHook awk224 (cutHook awk225 (cutHook awk226 (cutHook awk227 (cutHook awk228 (cutHook awk229 (cutHook awk230 (cutHook awk231 (cutHook awk232 (cutHook awk233 (cutHook awk234 (cutHook awk235 (cutHook awk236 (fun _ _ _ _ => none))))))))))))))))))))))))))))))))))))))))))))
/-- railplan/dynamics.Times -/
def awk238 : Cut where
  f := 451
  n := 87495
  args := [(.slice (some ⟨87330, 0, none⟩) 80 FULL), (.int .i64 40), (.agg #[(.string ⟨#[]⟩), (.int .i64 20), (.int .i64 30000), (.int .i64 500), (.int .i64 500)])]
  pre := [(87330, awb9)]
  v := (.tuple #[(.slice (some ⟨124106, 0, none⟩) 41 41), (.int .i64 0)])
  post := [(124106, awb12), (87330, awb9)]
  n2 := 126196
  frame := [79350, 79585, 79362, 85243, 85244, 85245, 87484, 85202, 85203, 85204, 85205, 85215, 82482, 82483, 82484, 82485, 10236, 82431, 79054, 79371, 79377, 77594, 8377, 8957, 10238, 10227, 10242, 10240, 77592, 82432, 82440, 82451, 79609, 79646, 82419, 76573, 77542, 77603, 79604, 79053, 76568, 10245, 76506, 76518, 76531]
def awk238_h : Hook := (cutHook awk237 (fun _ _ _ _ => none))
/-- railplan/motion.profile -/
def awk239 : Cut where
  f := 252
  n := 85202
  args := [(.agg #[(.slice none 0 0), (.slice none 0 0), (.slice (some ⟨79350, 0, none⟩) 3 FULL), (.slice (some ⟨79585, 0, none⟩) 2 FULL)]), (.agg #[(.slice (some ⟨79362, 0, none⟩) 3 FULL), (.int .i64 0)]), (.agg #[(.string ⟨#[]⟩), (.int .i64 20), (.int .i64 30000), (.int .i64 500), (.int .i64 500)]), (.int .i64 0), (.int .i64 2)]
  pre := [(79350, awb6), (79585, awb7), (79362, awb10)]
  v := (.agg #[(.int .i64 0), (.int .i64 2), (.slice (some ⟨126457, 0, none⟩) 2 FULL), (.slice (some ⟨126469, 0, none⟩) 2 FULL), (.slice (some ⟨126482, 0, none⟩) 2 FULL), (.int .i64 0), (.int .i64 57)])
  post := [(126457, .cells [(.int .i64 (-16)), (.int .i64 (-16))] 3 1), (126469, .cells [(.int .i64 0), (.int .i64 28)] 3 1), (126482, .cells [(.int .i64 33), (.int .i64 61)] 3 1), (79350, awb6), (79585, awb7), (79362, awb10)]
  n2 := 126493
  frame := [82482, 82483, 82484, 82485, 10236, 82431, 79054, 79371, 79377, 77594, 8377, 8957, 10238, 10227, 10242, 10240, 77592, 82432, 82440, 82451, 79609, 79646, 82419, 76573, 77542, 77603, 79604, 79053, 76568, 10245, 76506, 76518, 76531]
def awk239_h : Hook := (cutHook awk153 (cutHook awk238 (fun _ _ _ _ => none)))
def awb16 : EBlk := .cells [(.slice none 0 0), (.slice none 0 0), (.slice (some ⟨8377, 0, none⟩) 3 FULL), (.slice (some ⟨8957, 0, none⟩) 2 FULL), (.slice (some ⟨10236, 0, none⟩) 1 1), (.slice (some ⟨10238, 0, none⟩) 1 1), (.slice (some ⟨10242, 0, none⟩) 1 1), (.slice (some ⟨79054, 0, none⟩) 1 FULL), (.map (some 77592)), (.slice none 0 0)] 149 1
def awb17 : EBlk := .cells [(.string ⟨#[]⟩), (.int .i64 20), (.int .i64 30000), (.int .i64 500), (.int .i64 500)] 103 1
def awb18 : EBlk := .cells [(.slice (some ⟨10227, 0, none⟩) 3 3), (.int .i64 0)] 95 1
def awb19 : EBlk := .cells [(.int .i64 0), (.slice (some ⟨10240, 0, none⟩) 1 1)] 36 1
def awb20 : EBlk := .cells [(.int .i64 0), (.int .i64 100), (.int .i64 0)] 38 1
def awb21 : EBlk := .cells [(.slice (some ⟨79371, 0, none⟩) 3 FULL), (.slice (some ⟨79377, 0, none⟩) 3 FULL), (.int .i64 2), (.slice none 0 0), (.slice none 0 0), (.slice (some ⟨79350, 0, none⟩) 3 FULL), (.slice (some ⟨79585, 0, none⟩) 2 FULL), (.slice (some ⟨79362, 0, none⟩) 3 FULL), (.int .i64 0)] 155 9
def awb22 : EBlk := .cells [(.pointer (some ⟨79054, 0, none⟩)), (.int .i64 0), (.int .i64 0), (.int .i64 100), (.int .i64 0), (.int .i64 0), (.int .i64 57)] 153 7
def awb23 : EBlk := .map [((.agg #[(.int .i64 0), (.int .i64 0), (.int .i64 0), (.int .i64 2)]), (.agg #[(.int .i64 0), (.int .i64 2), (.slice (some ⟨126457, 0, none⟩) 2 FULL), (.slice (some ⟨126469, 0, none⟩) 2 FULL), (.slice (some ⟨126482, 0, none⟩) 2 FULL), (.int .i64 0), (.int .i64 57)]), 0)] 1
/-- (*railplan/operate.model).duties -/
def awk240 : Cut where
  f := 112
  n := 79609
  args := [(.pointer (some ⟨77594, 0, none⟩)), (.agg #[(.int .i64 0), (.slice (some ⟨10240, 0, none⟩) 1 1)])]
  pre := [(77594, awb16), (8377, awb6), (8957, awb7), (10236, awb17), (10238, awb18), (10227, awb8), (10242, awb19), (10240, awb20), (79054, awb21), (79371, awb13), (79377, awb14), (79350, awb6), (79585, awb7), (79362, awb10), (77592, .map [] 0)]
  v := (.tuple #[(.slice (some ⟨126509, 0, none⟩) 1 FULL), (.int .i64 0)])
  post := [(126509, awb22), (79054, awb21), (79371, awb13), (79377, awb14), (79350, awb6), (79585, awb7), (79362, awb10), (77594, awb16), (8377, awb6), (8957, awb7), (10236, awb17), (10238, awb18), (10227, awb8), (10242, awb19), (10240, awb20), (77592, awb23), (126457, .cells [(.int .i64 (-16)), (.int .i64 (-16))] 3 1), (126469, .cells [(.int .i64 0), (.int .i64 28)] 3 1), (126482, .cells [(.int .i64 33), (.int .i64 61)] 3 1)]
  n2 := 126539
  frame := [76573, 77542, 77603, 79604, 79053, 76568, 10245, 76506, 76518, 76531]
def awk240_h : Hook := (cutHook awk145 (cutHook awk146 (cutHook awk149 (cutHook awk150 (cutHook awk239 (fun _ _ _ _ => none))))))
def awb24 : EBlk := .cells [(.slice none 0 0), (.slice none 0 0), (.slice (some ⟨8377, 0, none⟩) 3 FULL), (.slice (some ⟨8957, 0, none⟩) 2 FULL), (.slice (some ⟨10236, 0, none⟩) 1 1), (.slice (some ⟨10238, 0, none⟩) 1 1), (.slice (some ⟨10242, 0, none⟩) 1 1), (.slice (some ⟨79054, 0, none⟩) 1 FULL), (.map (some 77592)), (.slice (some ⟨126553, 0, none⟩) 1 FULL)] 149 1
def awb25 : EBlk := .cells [(.slice (some ⟨126509, 0, none⟩) 1 FULL)] 150 1
/-- railplan/operate.newModel -/
def awk241 : Cut where
  f := 40
  n := 76573
  args := [(.agg #[(.slice none 0 0), (.slice none 0 0), (.slice (some ⟨8377, 0, none⟩) 3 FULL), (.slice (some ⟨8957, 0, none⟩) 2 FULL), (.slice (some ⟨10236, 0, none⟩) 1 1), (.slice (some ⟨10238, 0, none⟩) 1 1), (.slice (some ⟨10242, 0, none⟩) 1 1)])]
  pre := [(8377, awb6), (8957, awb7), (10236, awb17), (10238, awb18), (10227, awb8), (10242, awb19), (10240, awb20)]
  v := (.tuple #[(.pointer (some ⟨77594, 0, none⟩)), (.int .i64 0)])
  post := [(77594, awb24), (8377, awb6), (8957, awb7), (10236, awb17), (10238, awb18), (10227, awb8), (10242, awb19), (10240, awb20), (79054, awb21), (79371, awb13), (79377, awb14), (79350, awb6), (79585, awb7), (79362, awb10), (77592, awb23), (126457, .cells [(.int .i64 (-16)), (.int .i64 (-16))] 3 1), (126469, .cells [(.int .i64 0), (.int .i64 28)] 3 1), (126482, .cells [(.int .i64 33), (.int .i64 61)] 3 1), (126553, awb25), (126509, awb22)]
  n2 := 126563
  frame := [76568, 10245, 76506, 76518, 76531]
def awk241_h : Hook := (cutHook awk139 (cutHook awk141 (cutHook awk142 (cutHook awk240 (fun _ _ _ _ => none)))))
def awb26 : EBlk := .cells [(.slice (some ⟨126818, 0, none⟩) 3 FULL)] 242 1
def awb27 : EBlk := .cells [(.int .i64 0), (.slice none 0 0), (.int .i64 60), (.int .i64 40), (.int .i64 1), (.slice none 0 0), (.int .i64 28), (.int .i64 100), (.int .i64 2), (.slice none 0 0), (.int .i64 89), (.int .i64 0)] 241 4
/-- railplan/precedence.Valid -/
def awk242 : Cut where
  f := 198
  n := 127103
  args := [(.slice (some ⟨126597, 0, none⟩) 1 1)]
  pre := [(126597, awb26), (126818, awb27)]
  v := (.bool true)
  post := [(126597, awb26), (126818, awb27)]
  n2 := 129264
  frame := [126842, 127011, 127098, 77594, 8377, 8957, 10236, 10238, 10227, 10242, 10240, 79054, 79371, 79377, 79350, 79585, 79362, 77592, 126457, 126469, 126482, 126553, 126509, 126846, 126898, 126888, 127010, 76568, 10245, 76506, 76518, 76531]
def awk242_h : Hook := (fun _ _ _ _ => none)
def awb28 : EBlk := .cells [(.slice (some ⟨127011, 0, none⟩) 3 FULL)] 22 1
def awb29 : EBlk := .cells [(.int .i64 40), (.int .i64 84), (.int .i64 84)] 3 1
def awb30 : EBlk := .cells [(.int .i64 0), (.slice (some ⟨129406, 0, none⟩) 1 FULL), (.int .i64 1), (.slice (some ⟨129433, 0, none⟩) 1 FULL), (.int .i64 2), (.slice (some ⟨129460, 0, none⟩) 1 FULL)] 245 2
/-- railplan/precedence.Sort -/
def awk243 : Cut where
  f := 115
  n := 127098
  args := [(.slice (some ⟨126597, 0, none⟩) 1 1), (.slice (some ⟨126842, 0, none⟩) 1 1)]
  pre := [(126597, awb26), (126818, awb27), (126842, awb28), (127011, awb29)]
  v := (.tuple #[(.slice (some ⟨129674, 0, none⟩) 3 FULL), (.int .i64 0)])
  post := [(129674, awb30), (129406, .cells [(.int .i64 0), (.int .i64 0)] 247 2), (129433, .cells [(.int .i64 0), (.int .i64 1)] 247 2), (129460, .cells [(.int .i64 0), (.int .i64 2)] 247 2), (126597, awb26), (126818, awb27), (126842, awb28), (127011, awb29)]
  n2 := 131092
  frame := [77594, 8377, 8957, 10236, 10238, 10227, 10242, 10240, 79054, 79371, 79377, 79350, 79585, 79362, 77592, 126457, 126469, 126482, 126553, 126509, 126846, 126898, 126888, 127010, 76568, 10245, 76506, 76518, 76531]
def awk243_h : Hook := (cutHook awk242 (fun _ _ _ _ => none))
/-- railplan/precedence.Valid -/
def awk244 : Cut where
  f := 198
  n := 131117
  args := [(.slice (some ⟨126597, 0, none⟩) 1 1)]
  pre := [(126597, awb26), (126818, awb27)]
  v := (.bool true)
  post := [(126597, awb26), (126818, awb27)]
  n2 := 133278
  frame := [129674, 129406, 129433, 129460, 126846, 77594, 8377, 8957, 10236, 10238, 10227, 10242, 10240, 79054, 79371, 79377, 79350, 79585, 79362, 77592, 126457, 126469, 126482, 126553, 126509, 126842, 127011, 126898, 126888, 127010, 76568, 10245, 76506, 76518, 76531]
def awk244_h : Hook := (fun _ _ _ _ => none)
/-- railplan/precedence.Check -/
def awk245 : Cut where
  f := 208
  n := 131114
  args := [(.slice (some ⟨126597, 0, none⟩) 1 1), (.slice (some ⟨129674, 0, none⟩) 3 FULL)]
  pre := [(126597, awb26), (126818, awb27), (129674, awb30), (129406, .cells [(.int .i64 0), (.int .i64 0)] 247 2), (129433, .cells [(.int .i64 0), (.int .i64 1)] 247 2), (129460, .cells [(.int .i64 0), (.int .i64 2)] 247 2)]
  v := (.bool true)
  post := [(126597, awb26), (126818, awb27), (129674, awb30), (129406, .cells [(.int .i64 0), (.int .i64 0)] 247 2), (129433, .cells [(.int .i64 0), (.int .i64 1)] 247 2), (129460, .cells [(.int .i64 0), (.int .i64 2)] 247 2)]
  n2 := 133785
  frame := [126846, 77594, 8377, 8957, 10236, 10238, 10227, 10242, 10240, 79054, 79371, 79377, 79350, 79585, 79362, 77592, 126457, 126469, 126482, 126553, 126509, 126842, 127011, 126898, 126888, 127010, 76568, 10245, 76506, 76518, 76531]
def awk245_h : Hook := (cutHook awk244 (fun _ _ _ _ => none))
def awb31 : EBlk := .cells [(.slice (some ⟨126597, 0, none⟩) 1 1), (.slice (some ⟨126846, 0, none⟩) 1 1), (.slice (some ⟨133850, 0, none⟩) 1 FULL), (.slice (some ⟨133924, 0, none⟩) 4 FULL), (.slice (some ⟨133940, 0, none⟩) 4 4)] 436 1
def awb32 : EBlk := .cells [(.int .i64 0), (.int .i64 0), (.int .i64 0), (.int .i64 1), (.int .i64 0), (.int .i64 2), (.int .i64 0), (.int .i64 3)] 247 2
def awb33 : EBlk := .cells [(.slice none 0 0), (.slice (some ⟨133992, 0, none⟩) 1 FULL), (.slice (some ⟨134033, 0, none⟩) 1 FULL), (.slice (some ⟨134074, 0, none⟩) 1 FULL)] 437 1
/-- railplan/precedence.newGraph -/
def awk246 : Cut where
  f := 202
  n := 131109
  args := [(.slice (some ⟨126597, 0, none⟩) 1 1), (.slice (some ⟨129674, 0, none⟩) 3 FULL), (.slice (some ⟨126846, 0, none⟩) 1 1)]
  pre := [(126597, awb26), (126818, awb27), (129674, awb30), (129406, .cells [(.int .i64 0), (.int .i64 0)] 247 2), (129433, .cells [(.int .i64 0), (.int .i64 1)] 247 2), (129460, .cells [(.int .i64 0), (.int .i64 2)] 247 2), (126846, .cells [(.int .i64 (-1))] 3 1)]
  v := (.tuple #[(.pointer (some ⟨133828, 0, none⟩)), (.bool true)])
  post := [(133828, awb31), (126597, awb26), (126818, awb27), (126846, .cells [(.int .i64 (-1))] 3 1), (133850, .cells [(.int .i64 0)] 3 1), (133924, awb32), (133940, awb33), (133992, .cells [(.int .i64 0), (.int .i64 60)] 439 2), (134033, .cells [(.int .i64 1), (.int .i64 28)] 439 2), (134074, .cells [(.int .i64 2), (.int .i64 89)] 439 2), (129674, awb30), (129406, .cells [(.int .i64 0), (.int .i64 0)] 247 2), (129433, .cells [(.int .i64 0), (.int .i64 1)] 247 2), (129460, .cells [(.int .i64 0), (.int .i64 2)] 247 2)]
  n2 := 134483
  frame := [77594, 8377, 8957, 10236, 10238, 10227, 10242, 10240, 79054, 79371, 79377, 79350, 79585, 79362, 77592, 126457, 126469, 126482, 126553, 126509, 126842, 127011, 126898, 126888, 127010, 76568, 10245, 76506, 76518, 76531]
def awk246_h : Hook := (cutHook awk245 (fun _ _ _ _ => none))
def awb34 : EBlk := .cells [(.int .i64 0), (.int .i64 1), (.int .i64 2), (.int .i64 3)] 3 1
def awb35 : EBlk := .cells [(.bool true), (.bool true), (.bool true), (.bool true)] 4 1
/-- (*railplan/precedence.graph).line -/
def awk247 : Cut where
  f := 305
  n := 134496
  args := [(.pointer (some ⟨133828, 0, none⟩))]
  pre := [(133828, awb31), (126597, awb26), (126818, awb27), (126846, .cells [(.int .i64 (-1))] 3 1), (133850, .cells [(.int .i64 0)] 3 1), (133924, awb32), (133940, awb33), (133992, .cells [(.int .i64 0), (.int .i64 60)] 439 2), (134033, .cells [(.int .i64 1), (.int .i64 28)] 439 2), (134074, .cells [(.int .i64 2), (.int .i64 89)] 439 2)]
  v := (.tuple #[(.slice (some ⟨135065, 0, none⟩) 4 FULL), (.slice (some ⟨134503, 0, none⟩) 4 4)])
  post := [(135065, awb34), (134503, awb35), (133828, awb31), (126597, awb26), (126818, awb27), (126846, .cells [(.int .i64 (-1))] 3 1), (133850, .cells [(.int .i64 0)] 3 1), (133924, awb32), (133940, awb33), (133992, .cells [(.int .i64 0), (.int .i64 60)] 439 2), (134033, .cells [(.int .i64 1), (.int .i64 28)] 439 2), (134074, .cells [(.int .i64 2), (.int .i64 89)] 439 2)]
  n2 := 135125
  frame := [129674, 129406, 129433, 129460, 77594, 8377, 8957, 10236, 10238, 10227, 10242, 10240, 79054, 79371, 79377, 79350, 79585, 79362, 77592, 126457, 126469, 126482, 126553, 126509, 126842, 127011, 126898, 126888, 127010, 76568, 10245, 76506, 76518, 76531]
def awk247_h : Hook := (fun _ _ _ _ => none)
/-- (*railplan/operate.model).orders -/
def awk248 : Cut where
  f := 42
  n := 126587
  args := [(.pointer (some ⟨77594, 0, none⟩))]
  pre := [(77594, awb24), (8377, awb6), (8957, awb7), (10236, awb17), (10238, awb18), (10227, awb8), (10242, awb19), (10240, awb20), (79054, awb21), (79371, awb13), (79377, awb14), (79350, awb6), (79585, awb7), (79362, awb10), (77592, awb23), (126457, .cells [(.int .i64 (-16)), (.int .i64 (-16))] 3 1), (126469, .cells [(.int .i64 0), (.int .i64 28)] 3 1), (126482, .cells [(.int .i64 33), (.int .i64 61)] 3 1), (126553, awb25), (126509, awb22)]
  v := (.tuple #[(.slice (some ⟨129674, 0, none⟩) 3 FULL), (.int .i64 0)])
  post := [(129674, awb30), (129406, .cells [(.int .i64 0), (.int .i64 0)] 247 2), (129433, .cells [(.int .i64 0), (.int .i64 1)] 247 2), (129460, .cells [(.int .i64 0), (.int .i64 2)] 247 2), (77594, awb24), (8377, awb6), (8957, awb7), (10236, awb17), (10238, awb18), (10227, awb8), (10242, awb19), (10240, awb20), (79054, awb21), (79371, awb13), (79377, awb14), (79350, awb6), (79585, awb7), (79362, awb10), (77592, awb23), (126457, .cells [(.int .i64 (-16)), (.int .i64 (-16))] 3 1), (126469, .cells [(.int .i64 0), (.int .i64 28)] 3 1), (126482, .cells [(.int .i64 33), (.int .i64 61)] 3 1), (126553, awb25), (126509, awb22)]
  n2 := 135488
  frame := [76568, 10245, 76506, 76518, 76531]
def awk248_h : Hook := (cutHook awk243 (cutHook awk246 (cutHook awk247 (fun _ _ _ _ => none))))
def awb36 : EBlk := .cells [(.pointer (some ⟨77594, 0, none⟩)), (.slice none 0 0), (.func (.func 46) #[] #[(.pointer (some ⟨135928, 0, none⟩))]), (.func (.func 48) #[(.pointer (some ⟨135927, 0, none⟩))] #[]), (.int .i64 40), (.slice (some ⟨135606, 0, none⟩) 1 FULL), (.slice (some ⟨135520, 0, none⟩) 3 3), (.int .i64 0), (.slice none 0 0), (.bool false), (.slice none 0 0)] 134 1
def awb37 : EBlk := .cells [(.pointer (some ⟨135927, 0, none⟩))] 120 1
def awb38 : EBlk := .cells [(.pointer (some ⟨135522, 0, none⟩)), (.slice (some ⟨135683, 0, none⟩) 1 1), (.slice (some ⟨129674, 0, none⟩) 3 FULL), (.map (some 135934)), (.int .i64 0)] 127 1
def awb39 : EBlk := .cells [(.slice (some ⟨135904, 0, none⟩) 3 FULL)] 242 1
def awb40 : EBlk := .map [((.int .i64 0), (.slice (some ⟨129406, 0, none⟩) 1 FULL), 0), ((.int .i64 1), (.slice (some ⟨129433, 0, none⟩) 1 FULL), 1), ((.int .i64 2), (.slice (some ⟨129460, 0, none⟩) 1 FULL), 2)] 3
def awb41 : EBlk := .cells [(.pointer (some ⟨135614, 0, none⟩))] 237 1
def awb42 : EBlk := .cells [(.int .i64 0), (.slice (some ⟨126509, 0, none⟩) 1 FULL), (.int .i64 0), (.int .i64 (-1)), (.int .i64 0), (.int .i64 0), (.int .i64 0), (.int .i64 0), (.slice none 0 0), (.slice none 0 0), (.int .i64 (-1)), (.bool false)] 253 1
def awb43 : EBlk := .cells [(.slice (some ⟨135543, 0, none⟩) 1 1), (.slice (some ⟨135561, 0, none⟩) 1 1), (.slice (some ⟨135579, 0, none⟩) 1 1)] 22 1
def awb44 : EBlk := .cells [(.pointer (some ⟨77594, 0, none⟩)), (.slice none 0 0), (.func (.func 46) #[] #[(.pointer (some ⟨135928, 0, none⟩))]), (.func (.func 48) #[(.pointer (some ⟨135927, 0, none⟩))] #[]), (.int .i64 40), (.slice (some ⟨135606, 0, none⟩) 1 FULL), (.slice (some ⟨135520, 0, none⟩) 3 3), (.int .i64 1), (.slice (some ⟨137205, 0, none⟩) 1 FULL), (.bool true), (.slice none 0 0)] 134 1
def awb45 : EBlk := .cells [(.int .i64 0), (.slice (some ⟨126509, 0, none⟩) 1 FULL), (.int .i64 1), (.int .i64 0), (.int .i64 0), (.int .i64 0), (.int .i64 100), (.int .i64 0), (.slice none 0 0), (.slice none 0 0), (.int .i64 (-1)), (.bool false)] 253 1
def awb46 : EBlk := .cells [(.int .i64 40), (.int .i64 5), (.int .i64 0), (.int .i64 0), (.int .i64 0), (.int .i64 0)] 51 6
/-- (*railplan/operate.simulation).enter -/
def awk249 : Cut where
  f := 337
  n := 136863
  args := [(.pointer (some ⟨135522, 0, none⟩)), (.pointer (some ⟨135614, 0, none⟩))]
  pre := [(135522, awb36), (77594, awb24), (8377, awb6), (8957, awb7), (10236, awb17), (10238, awb18), (10227, awb8), (10242, awb19), (10240, awb20), (79054, awb21), (79371, awb13), (79377, awb14), (79350, awb6), (79585, awb7), (79362, awb10), (77592, awb23), (126457, .cells [(.int .i64 (-16)), (.int .i64 (-16))] 3 1), (126469, .cells [(.int .i64 0), (.int .i64 28)] 3 1), (126482, .cells [(.int .i64 33), (.int .i64 61)] 3 1), (126553, awb25), (126509, awb22), (135928, awb37), (135927, awb38), (135683, awb39), (135904, awb27), (129674, awb30), (129406, .cells [(.int .i64 0), (.int .i64 0)] 247 2), (129433, .cells [(.int .i64 0), (.int .i64 1)] 247 2), (129460, .cells [(.int .i64 0), (.int .i64 2)] 247 2), (135934, awb40), (135606, awb41), (135614, awb42), (135520, awb43), (135543, .cells [(.int .i64 0)] 3 1), (135561, .cells [(.int .i64 0)] 3 1), (135579, .cells [(.int .i64 0)] 3 1)]
  v := (.bool true)
  post := [(135522, awb44), (77594, awb24), (8377, awb6), (8957, awb7), (10236, awb17), (10238, awb18), (10227, awb8), (10242, awb19), (10240, awb20), (79054, awb21), (79371, awb13), (79377, awb14), (79350, awb6), (79585, awb7), (79362, awb10), (77592, awb23), (126457, .cells [(.int .i64 (-16)), (.int .i64 (-16))] 3 1), (126469, .cells [(.int .i64 0), (.int .i64 28)] 3 1), (126482, .cells [(.int .i64 33), (.int .i64 61)] 3 1), (126553, awb25), (126509, awb22), (135928, awb37), (135927, awb38), (135683, awb39), (135904, awb27), (129674, awb30), (129406, .cells [(.int .i64 0), (.int .i64 0)] 247 2), (129433, .cells [(.int .i64 0), (.int .i64 1)] 247 2), (129460, .cells [(.int .i64 0), (.int .i64 2)] 247 2), (135934, awb40), (135606, awb41), (135614, awb45), (135520, awb43), (135543, .cells [(.int .i64 1)] 3 1), (135561, .cells [(.int .i64 0)] 3 1), (135579, .cells [(.int .i64 0)] 3 1), (137205, awb46)]
  n2 := 137325
  frame := [76568, 10245, 76506, 76518, 76531]
def awk249_h : Hook := (fun _ _ _ _ => none)
def awb47 : EBlk := .cells [(.pointer (some ⟨77594, 0, none⟩)), (.slice none 0 0), (.func (.func 46) #[] #[(.pointer (some ⟨135928, 0, none⟩))]), (.func (.func 48) #[(.pointer (some ⟨135927, 0, none⟩))] #[]), (.int .i64 84), (.slice (some ⟨135606, 0, none⟩) 1 FULL), (.slice (some ⟨135520, 0, none⟩) 3 3), (.int .i64 1), (.slice (some ⟨137205, 0, none⟩) 1 FULL), (.bool false), (.slice none 0 0)] 134 1
def awb48 : EBlk := .cells [(.pointer (some ⟨77594, 0, none⟩)), (.slice none 0 0), (.func (.func 46) #[] #[(.pointer (some ⟨135928, 0, none⟩))]), (.func (.func 48) #[(.pointer (some ⟨135927, 0, none⟩))] #[]), (.int .i64 84), (.slice (some ⟨135606, 0, none⟩) 1 FULL), (.slice (some ⟨135520, 0, none⟩) 3 3), (.int .i64 2), (.slice (some ⟨138592, 0, none⟩) 2 FULL), (.bool true), (.slice none 0 0)] 134 1
def awb49 : EBlk := .cells [(.int .i64 0), (.slice (some ⟨126509, 0, none⟩) 1 FULL), (.int .i64 2), (.int .i64 1), (.int .i64 0), (.int .i64 0), (.int .i64 100), (.int .i64 2), (.slice (some ⟨138718, 0, none⟩) 1 FULL), (.slice none 0 0), (.int .i64 (-1)), (.bool false)] 253 1
def awb50 : EBlk := .cells [(.pointer (some ⟨138716, 0, none⟩))] 367 1
def awb51 : EBlk := .cells [(.int .i64 0), (.int .i64 0), (.int .i64 2), (.int .i64 100), (.int .i64 0), (.int .i64 2), (.slice (some ⟨126457, 0, none⟩) 2 FULL), (.slice (some ⟨126469, 0, none⟩) 2 FULL), (.slice (some ⟨126482, 0, none⟩) 2 FULL), (.int .i64 0), (.int .i64 57), (.int .i64 (-1)), (.bool false), (.bool false), (.slice (some ⟨138712, 0, none⟩) 2 2), (.slice (some ⟨138714, 0, none⟩) 2 2)] 369 1
def awb52 : EBlk := .cells [(.int .i64 40), (.int .i64 5), (.int .i64 0), (.int .i64 0), (.int .i64 0), (.int .i64 0), (.int .i64 84), (.int .i64 5), (.int .i64 0), (.int .i64 0), (.int .i64 1), (.int .i64 0)] 51 6
/-- (*railplan/operate.simulation).begin -/
def awk250 : Cut where
  f := 338
  n := 138243
  args := [(.pointer (some ⟨135522, 0, none⟩)), (.pointer (some ⟨135614, 0, none⟩))]
  pre := [(135522, awb47), (77594, awb24), (8377, awb6), (8957, awb7), (10236, awb17), (10238, awb18), (10227, awb8), (10242, awb19), (10240, awb20), (79054, awb21), (79371, awb13), (79377, awb14), (79350, awb6), (79585, awb7), (79362, awb10), (77592, awb23), (126457, .cells [(.int .i64 (-16)), (.int .i64 (-16))] 3 1), (126469, .cells [(.int .i64 0), (.int .i64 28)] 3 1), (126482, .cells [(.int .i64 33), (.int .i64 61)] 3 1), (126553, awb25), (126509, awb22), (135928, awb37), (135927, awb38), (135683, awb39), (135904, awb27), (129674, awb30), (129406, .cells [(.int .i64 0), (.int .i64 0)] 247 2), (129433, .cells [(.int .i64 0), (.int .i64 1)] 247 2), (129460, .cells [(.int .i64 0), (.int .i64 2)] 247 2), (135934, awb40), (135606, awb41), (135614, awb45), (135520, awb43), (135543, .cells [(.int .i64 1)] 3 1), (135561, .cells [(.int .i64 0)] 3 1), (135579, .cells [(.int .i64 0)] 3 1), (137205, awb46)]
  v := (.bool true)
  post := [(135522, awb48), (77594, awb24), (8377, awb6), (8957, awb7), (10236, awb17), (10238, awb18), (10227, awb8), (10242, awb19), (10240, awb20), (79054, awb21), (79371, awb13), (79377, awb14), (79350, awb6), (79585, awb7), (79362, awb10), (77592, awb23), (126457, .cells [(.int .i64 (-16)), (.int .i64 (-16))] 3 1), (126469, .cells [(.int .i64 0), (.int .i64 28)] 3 1), (126482, .cells [(.int .i64 33), (.int .i64 61)] 3 1), (126553, awb25), (126509, awb22), (135928, awb37), (135927, awb38), (135683, awb39), (135904, awb27), (129674, awb30), (129406, .cells [(.int .i64 0), (.int .i64 0)] 247 2), (129433, .cells [(.int .i64 0), (.int .i64 1)] 247 2), (129460, .cells [(.int .i64 0), (.int .i64 2)] 247 2), (135934, awb40), (135606, awb41), (135614, awb49), (138718, awb50), (138716, awb51), (138712, .cells [(.bool false), (.bool false)] 4 1), (138714, .cells [(.bool false), (.bool false)] 4 1), (135520, awb43), (135543, .cells [(.int .i64 1)] 3 1), (135561, .cells [(.int .i64 1)] 3 1), (135579, .cells [(.int .i64 0)] 3 1), (138592, awb52)]
  n2 := 138792
  frame := [76568, 10245, 76506, 76518, 76531]
def awk250_h : Hook := (fun _ _ _ _ => none)
def awb53 : EBlk := .cells [(.pointer (some ⟨77594, 0, none⟩)), (.slice none 0 0), (.func (.func 46) #[] #[(.pointer (some ⟨135928, 0, none⟩))]), (.func (.func 48) #[(.pointer (some ⟨135927, 0, none⟩))] #[]), (.int .i64 84), (.slice (some ⟨135606, 0, none⟩) 1 FULL), (.slice (some ⟨135520, 0, none⟩) 3 3), (.int .i64 3), (.slice (some ⟨139277, 0, none⟩) 3 FULL), (.bool true), (.slice none 0 0)] 134 1
def awb54 : EBlk := .cells [(.int .i64 0), (.slice (some ⟨126509, 0, none⟩) 1 FULL), (.int .i64 4), (.int .i64 2), (.int .i64 0), (.int .i64 0), (.int .i64 100), (.int .i64 3), (.slice (some ⟨138718, 0, none⟩) 1 FULL), (.slice (some ⟨139511, 0, none⟩) 1 FULL), (.int .i64 217), (.bool false)] 253 1
def awb55 : EBlk := .cells [(.int .i64 0), (.int .i64 0), (.int .i64 2), (.int .i64 100), (.int .i64 0), (.int .i64 2), (.slice (some ⟨126457, 0, none⟩) 2 FULL), (.slice (some ⟨126469, 0, none⟩) 2 FULL), (.slice (some ⟨126482, 0, none⟩) 2 FULL), (.int .i64 0), (.int .i64 57), (.int .i64 157), (.bool false), (.bool false), (.slice (some ⟨138712, 0, none⟩) 2 2), (.slice (some ⟨138714, 0, none⟩) 2 2)] 369 1
def awb56 : EBlk := .cells [(.int .i64 40), (.int .i64 5), (.int .i64 0), (.int .i64 0), (.int .i64 0), (.int .i64 0), (.int .i64 84), (.int .i64 5), (.int .i64 0), (.int .i64 0), (.int .i64 1), (.int .i64 0), (.int .i64 84), (.int .i64 5), (.int .i64 0), (.int .i64 0), (.int .i64 2), (.int .i64 0)] 51 6
/-- (*railplan/operate.simulation).proceed -/
def awk251 : Cut where
  f := 339
  n := 138874
  args := [(.pointer (some ⟨135522, 0, none⟩)), (.pointer (some ⟨135614, 0, none⟩))]
  pre := [(135522, awb48), (77594, awb24), (8377, awb6), (8957, awb7), (10236, awb17), (10238, awb18), (10227, awb8), (10242, awb19), (10240, awb20), (79054, awb21), (79371, awb13), (79377, awb14), (79350, awb6), (79585, awb7), (79362, awb10), (77592, awb23), (126457, .cells [(.int .i64 (-16)), (.int .i64 (-16))] 3 1), (126469, .cells [(.int .i64 0), (.int .i64 28)] 3 1), (126482, .cells [(.int .i64 33), (.int .i64 61)] 3 1), (126553, awb25), (126509, awb22), (135928, awb37), (135927, awb38), (135683, awb39), (135904, awb27), (129674, awb30), (129406, .cells [(.int .i64 0), (.int .i64 0)] 247 2), (129433, .cells [(.int .i64 0), (.int .i64 1)] 247 2), (129460, .cells [(.int .i64 0), (.int .i64 2)] 247 2), (135934, awb40), (135606, awb41), (135614, awb49), (138718, awb50), (138716, awb51), (138712, .cells [(.bool false), (.bool false)] 4 1), (138714, .cells [(.bool false), (.bool false)] 4 1), (135520, awb43), (135543, .cells [(.int .i64 1)] 3 1), (135561, .cells [(.int .i64 1)] 3 1), (135579, .cells [(.int .i64 0)] 3 1), (138592, awb52)]
  v := (.bool true)
  post := [(135522, awb53), (77594, awb24), (8377, awb6), (8957, awb7), (10236, awb17), (10238, awb18), (10227, awb8), (10242, awb19), (10240, awb20), (79054, awb21), (79371, awb13), (79377, awb14), (79350, awb6), (79585, awb7), (79362, awb10), (77592, awb23), (126457, .cells [(.int .i64 (-16)), (.int .i64 (-16))] 3 1), (126469, .cells [(.int .i64 0), (.int .i64 28)] 3 1), (126482, .cells [(.int .i64 33), (.int .i64 61)] 3 1), (126553, awb25), (126509, awb22), (135928, awb37), (135927, awb38), (135683, awb39), (135904, awb27), (129674, awb30), (129406, .cells [(.int .i64 0), (.int .i64 0)] 247 2), (129433, .cells [(.int .i64 0), (.int .i64 1)] 247 2), (129460, .cells [(.int .i64 0), (.int .i64 2)] 247 2), (135934, awb40), (135606, awb41), (135614, awb54), (138718, awb50), (138716, awb55), (138712, .cells [(.bool false), (.bool false)] 4 1), (138714, .cells [(.bool false), (.bool false)] 4 1), (139511, .cells [(.int .i64 2), (.int .i64 217)] 371 2), (135520, awb43), (135543, .cells [(.int .i64 1)] 3 1), (135561, .cells [(.int .i64 1)] 3 1), (135579, .cells [(.int .i64 1)] 3 1), (139277, awb56)]
  n2 := 139530
  frame := [76568, 10245, 76506, 76518, 76531]
def awk251_h : Hook := (fun _ _ _ _ => none)
/-- (*railplan/operate.simulation).second -/
def awk252 : Cut where
  f := 127
  n := 137959
  args := [(.pointer (some ⟨135522, 0, none⟩))]
  pre := [(135522, awb47), (77594, awb24), (8377, awb6), (8957, awb7), (10236, awb17), (10238, awb18), (10227, awb8), (10242, awb19), (10240, awb20), (79054, awb21), (79371, awb13), (79377, awb14), (79350, awb6), (79585, awb7), (79362, awb10), (77592, awb23), (126457, .cells [(.int .i64 (-16)), (.int .i64 (-16))] 3 1), (126469, .cells [(.int .i64 0), (.int .i64 28)] 3 1), (126482, .cells [(.int .i64 33), (.int .i64 61)] 3 1), (126553, awb25), (126509, awb22), (135928, awb37), (135927, awb38), (135683, awb39), (135904, awb27), (129674, awb30), (129406, .cells [(.int .i64 0), (.int .i64 0)] 247 2), (129433, .cells [(.int .i64 0), (.int .i64 1)] 247 2), (129460, .cells [(.int .i64 0), (.int .i64 2)] 247 2), (135934, awb40), (135606, awb41), (135614, awb45), (135520, awb43), (135543, .cells [(.int .i64 1)] 3 1), (135561, .cells [(.int .i64 0)] 3 1), (135579, .cells [(.int .i64 0)] 3 1), (137205, awb46)]
  v := (.tuple #[])
  post := [(135522, awb53), (77594, awb24), (8377, awb6), (8957, awb7), (10236, awb17), (10238, awb18), (10227, awb8), (10242, awb19), (10240, awb20), (79054, awb21), (79371, awb13), (79377, awb14), (79350, awb6), (79585, awb7), (79362, awb10), (77592, awb23), (126457, .cells [(.int .i64 (-16)), (.int .i64 (-16))] 3 1), (126469, .cells [(.int .i64 0), (.int .i64 28)] 3 1), (126482, .cells [(.int .i64 33), (.int .i64 61)] 3 1), (126553, awb25), (126509, awb22), (135928, awb37), (135927, awb38), (135683, awb39), (135904, awb27), (129674, awb30), (129406, .cells [(.int .i64 0), (.int .i64 0)] 247 2), (129433, .cells [(.int .i64 0), (.int .i64 1)] 247 2), (129460, .cells [(.int .i64 0), (.int .i64 2)] 247 2), (135934, awb40), (135606, awb41), (135614, awb54), (138718, awb50), (138716, awb55), (138712, .cells [(.bool false), (.bool false)] 4 1), (138714, .cells [(.bool false), (.bool false)] 4 1), (139511, .cells [(.int .i64 2), (.int .i64 217)] 371 2), (135520, awb43), (135543, .cells [(.int .i64 1)] 3 1), (135561, .cells [(.int .i64 1)] 3 1), (135579, .cells [(.int .i64 1)] 3 1), (139277, awb56)]
  n2 := 139625
  frame := [76568, 10245, 76506, 76518, 76531]
def awk252_h : Hook := (cutHook awk250 (cutHook awk251 (fun _ _ _ _ => none)))
def awb57 : EBlk := .cells [(.pointer (some ⟨77594, 0, none⟩)), (.slice none 0 0), (.func (.func 46) #[] #[(.pointer (some ⟨135928, 0, none⟩))]), (.func (.func 48) #[(.pointer (some ⟨135927, 0, none⟩))] #[]), (.int .i64 85), (.slice (some ⟨135606, 0, none⟩) 1 FULL), (.slice (some ⟨135520, 0, none⟩) 3 3), (.int .i64 3), (.slice (some ⟨139277, 0, none⟩) 3 FULL), (.bool false), (.slice none 0 0)] 134 1
/-- (*railplan/operate.simulation).second -/
def awk253 : Cut where
  f := 127
  n := 139678
  args := [(.pointer (some ⟨135522, 0, none⟩))]
  pre := [(135522, awb57), (77594, awb24), (8377, awb6), (8957, awb7), (10236, awb17), (10238, awb18), (10227, awb8), (10242, awb19), (10240, awb20), (79054, awb21), (79371, awb13), (79377, awb14), (79350, awb6), (79585, awb7), (79362, awb10), (77592, awb23), (126457, .cells [(.int .i64 (-16)), (.int .i64 (-16))] 3 1), (126469, .cells [(.int .i64 0), (.int .i64 28)] 3 1), (126482, .cells [(.int .i64 33), (.int .i64 61)] 3 1), (126553, awb25), (126509, awb22), (135928, awb37), (135927, awb38), (135683, awb39), (135904, awb27), (129674, awb30), (129406, .cells [(.int .i64 0), (.int .i64 0)] 247 2), (129433, .cells [(.int .i64 0), (.int .i64 1)] 247 2), (129460, .cells [(.int .i64 0), (.int .i64 2)] 247 2), (135934, awb40), (135606, awb41), (135614, awb54), (138718, awb50), (138716, awb55), (138712, .cells [(.bool false), (.bool false)] 4 1), (138714, .cells [(.bool false), (.bool false)] 4 1), (139511, .cells [(.int .i64 2), (.int .i64 217)] 371 2), (135520, awb43), (135543, .cells [(.int .i64 1)] 3 1), (135561, .cells [(.int .i64 1)] 3 1), (135579, .cells [(.int .i64 1)] 3 1), (139277, awb56)]
  v := (.tuple #[])
  post := [(135522, awb57), (77594, awb24), (8377, awb6), (8957, awb7), (10236, awb17), (10238, awb18), (10227, awb8), (10242, awb19), (10240, awb20), (79054, awb21), (79371, awb13), (79377, awb14), (79350, awb6), (79585, awb7), (79362, awb10), (77592, awb23), (126457, .cells [(.int .i64 (-16)), (.int .i64 (-16))] 3 1), (126469, .cells [(.int .i64 0), (.int .i64 28)] 3 1), (126482, .cells [(.int .i64 33), (.int .i64 61)] 3 1), (126553, awb25), (126509, awb22), (135928, awb37), (135927, awb38), (135683, awb39), (135904, awb27), (129674, awb30), (129406, .cells [(.int .i64 0), (.int .i64 0)] 247 2), (129433, .cells [(.int .i64 0), (.int .i64 1)] 247 2), (129460, .cells [(.int .i64 0), (.int .i64 2)] 247 2), (135934, awb40), (135606, awb41), (135614, awb54), (138718, awb50), (138716, awb55), (138712, .cells [(.bool false), (.bool false)] 4 1), (138714, .cells [(.bool false), (.bool false)] 4 1), (139511, .cells [(.int .i64 2), (.int .i64 217)] 371 2), (135520, awb43), (135543, .cells [(.int .i64 1)] 3 1), (135561, .cells [(.int .i64 1)] 3 1), (135579, .cells [(.int .i64 1)] 3 1), (139277, awb56)]
  n2 := 140291
  frame := [76568, 10245, 76506, 76518, 76531]
def awk253_h : Hook := (fun _ _ _ _ => none)
/-- (*railplan/operate.simulation).following -/
def awk254 : Cut where
  f := 126
  n := 140293
  args := [(.pointer (some ⟨135522, 0, none⟩))]
  pre := [(135522, awb57), (77594, awb24), (8377, awb6), (8957, awb7), (10236, awb17), (10238, awb18), (10227, awb8), (10242, awb19), (10240, awb20), (79054, awb21), (79371, awb13), (79377, awb14), (79350, awb6), (79585, awb7), (79362, awb10), (77592, awb23), (126457, .cells [(.int .i64 (-16)), (.int .i64 (-16))] 3 1), (126469, .cells [(.int .i64 0), (.int .i64 28)] 3 1), (126482, .cells [(.int .i64 33), (.int .i64 61)] 3 1), (126553, awb25), (126509, awb22), (135928, awb37), (135927, awb38), (135683, awb39), (135904, awb27), (129674, awb30), (129406, .cells [(.int .i64 0), (.int .i64 0)] 247 2), (129433, .cells [(.int .i64 0), (.int .i64 1)] 247 2), (129460, .cells [(.int .i64 0), (.int .i64 2)] 247 2), (135934, awb40), (135606, awb41), (135614, awb54), (138718, awb50), (138716, awb55), (138712, .cells [(.bool false), (.bool false)] 4 1), (138714, .cells [(.bool false), (.bool false)] 4 1), (139511, .cells [(.int .i64 2), (.int .i64 217)] 371 2), (135520, awb43), (135543, .cells [(.int .i64 1)] 3 1), (135561, .cells [(.int .i64 1)] 3 1), (135579, .cells [(.int .i64 1)] 3 1), (139277, awb56)]
  v := (.int .i64 100)
  post := [(135522, awb57), (77594, awb24), (8377, awb6), (8957, awb7), (10236, awb17), (10238, awb18), (10227, awb8), (10242, awb19), (10240, awb20), (79054, awb21), (79371, awb13), (79377, awb14), (79350, awb6), (79585, awb7), (79362, awb10), (77592, awb23), (126457, .cells [(.int .i64 (-16)), (.int .i64 (-16))] 3 1), (126469, .cells [(.int .i64 0), (.int .i64 28)] 3 1), (126482, .cells [(.int .i64 33), (.int .i64 61)] 3 1), (126553, awb25), (126509, awb22), (135928, awb37), (135927, awb38), (135683, awb39), (135904, awb27), (129674, awb30), (129406, .cells [(.int .i64 0), (.int .i64 0)] 247 2), (129433, .cells [(.int .i64 0), (.int .i64 1)] 247 2), (129460, .cells [(.int .i64 0), (.int .i64 2)] 247 2), (135934, awb40), (135606, awb41), (135614, awb54), (138718, awb50), (138716, awb55), (138712, .cells [(.bool false), (.bool false)] 4 1), (138714, .cells [(.bool false), (.bool false)] 4 1), (139511, .cells [(.int .i64 2), (.int .i64 217)] 371 2), (135520, awb43), (135543, .cells [(.int .i64 1)] 3 1), (135561, .cells [(.int .i64 1)] 3 1), (135579, .cells [(.int .i64 1)] 3 1), (139277, awb56)]
  n2 := 140717
  frame := [76568, 10245, 76506, 76518, 76531]
def awk254_h : Hook := (fun _ _ _ _ => none)
def awb58 : EBlk := .cells [(.pointer (some ⟨77594, 0, none⟩)), (.slice none 0 0), (.func (.func 46) #[] #[(.pointer (some ⟨135928, 0, none⟩))]), (.func (.func 48) #[(.pointer (some ⟨135927, 0, none⟩))] #[]), (.int .i64 100), (.slice (some ⟨135606, 0, none⟩) 1 FULL), (.slice (some ⟨135520, 0, none⟩) 3 3), (.int .i64 3), (.slice (some ⟨139277, 0, none⟩) 3 FULL), (.bool false), (.slice none 0 0)] 134 1
def awb59 : EBlk := .cells [(.pointer (some ⟨77594, 0, none⟩)), (.slice none 0 0), (.func (.func 46) #[] #[(.pointer (some ⟨135928, 0, none⟩))]), (.func (.func 48) #[(.pointer (some ⟨135927, 0, none⟩))] #[]), (.int .i64 100), (.slice (some ⟨135606, 0, none⟩) 1 FULL), (.slice (some ⟨135520, 0, none⟩) 3 3), (.int .i64 3), (.slice (some ⟨141396, 0, none⟩) 4 FULL), (.bool true), (.slice none 0 0)] 134 1
def awb60 : EBlk := .cells [(.int .i64 0), (.int .i64 0), (.int .i64 2), (.int .i64 100), (.int .i64 0), (.int .i64 2), (.slice (some ⟨126457, 0, none⟩) 2 FULL), (.slice (some ⟨126469, 0, none⟩) 2 FULL), (.slice (some ⟨126482, 0, none⟩) 2 FULL), (.int .i64 0), (.int .i64 57), (.int .i64 157), (.bool true), (.bool false), (.slice (some ⟨138712, 0, none⟩) 2 2), (.slice (some ⟨138714, 0, none⟩) 2 2)] 369 1
def awb61 : EBlk := .cells [(.int .i64 40), (.int .i64 5), (.int .i64 0), (.int .i64 0), (.int .i64 0), (.int .i64 0), (.int .i64 84), (.int .i64 5), (.int .i64 0), (.int .i64 0), (.int .i64 1), (.int .i64 0), (.int .i64 84), (.int .i64 5), (.int .i64 0), (.int .i64 0), (.int .i64 2), (.int .i64 0), (.int .i64 100), (.int .i64 8), (.int .i64 0), (.int .i64 0), (.int .i64 0), (.int .i64 0)] 51 6
/-- (*railplan/operate.simulation).second -/
def awk255 : Cut where
  f := 127
  n := 140756
  args := [(.pointer (some ⟨135522, 0, none⟩))]
  pre := [(135522, awb58), (77594, awb24), (8377, awb6), (8957, awb7), (10236, awb17), (10238, awb18), (10227, awb8), (10242, awb19), (10240, awb20), (79054, awb21), (79371, awb13), (79377, awb14), (79350, awb6), (79585, awb7), (79362, awb10), (77592, awb23), (126457, .cells [(.int .i64 (-16)), (.int .i64 (-16))] 3 1), (126469, .cells [(.int .i64 0), (.int .i64 28)] 3 1), (126482, .cells [(.int .i64 33), (.int .i64 61)] 3 1), (126553, awb25), (126509, awb22), (135928, awb37), (135927, awb38), (135683, awb39), (135904, awb27), (129674, awb30), (129406, .cells [(.int .i64 0), (.int .i64 0)] 247 2), (129433, .cells [(.int .i64 0), (.int .i64 1)] 247 2), (129460, .cells [(.int .i64 0), (.int .i64 2)] 247 2), (135934, awb40), (135606, awb41), (135614, awb54), (138718, awb50), (138716, awb55), (138712, .cells [(.bool false), (.bool false)] 4 1), (138714, .cells [(.bool false), (.bool false)] 4 1), (139511, .cells [(.int .i64 2), (.int .i64 217)] 371 2), (135520, awb43), (135543, .cells [(.int .i64 1)] 3 1), (135561, .cells [(.int .i64 1)] 3 1), (135579, .cells [(.int .i64 1)] 3 1), (139277, awb56)]
  v := (.tuple #[])
  post := [(135522, awb59), (77594, awb24), (8377, awb6), (8957, awb7), (10236, awb17), (10238, awb18), (10227, awb8), (10242, awb19), (10240, awb20), (79054, awb21), (79371, awb13), (79377, awb14), (79350, awb6), (79585, awb7), (79362, awb10), (77592, awb23), (126457, .cells [(.int .i64 (-16)), (.int .i64 (-16))] 3 1), (126469, .cells [(.int .i64 0), (.int .i64 28)] 3 1), (126482, .cells [(.int .i64 33), (.int .i64 61)] 3 1), (126553, awb25), (126509, awb22), (135928, awb37), (135927, awb38), (135683, awb39), (135904, awb27), (129674, awb30), (129406, .cells [(.int .i64 0), (.int .i64 0)] 247 2), (129433, .cells [(.int .i64 0), (.int .i64 1)] 247 2), (129460, .cells [(.int .i64 0), (.int .i64 2)] 247 2), (135934, awb40), (135606, awb41), (135614, awb54), (138718, awb50), (138716, awb60), (138712, .cells [(.bool false), (.bool false)] 4 1), (138714, .cells [(.bool false), (.bool false)] 4 1), (139511, .cells [(.int .i64 2), (.int .i64 217)] 371 2), (135520, awb43), (135543, .cells [(.int .i64 1)] 3 1), (135561, .cells [(.int .i64 1)] 3 1), (135579, .cells [(.int .i64 1)] 3 1), (141396, awb61)]
  n2 := 141410
  frame := [76568, 10245, 76506, 76518, 76531]
def awk255_h : Hook := (fun _ _ _ _ => none)
def awb62 : EBlk := .cells [(.pointer (some ⟨77594, 0, none⟩)), (.slice none 0 0), (.func (.func 46) #[] #[(.pointer (some ⟨135928, 0, none⟩))]), (.func (.func 48) #[(.pointer (some ⟨135927, 0, none⟩))] #[]), (.int .i64 101), (.slice (some ⟨135606, 0, none⟩) 1 FULL), (.slice (some ⟨135520, 0, none⟩) 3 3), (.int .i64 3), (.slice (some ⟨141396, 0, none⟩) 4 FULL), (.bool false), (.slice none 0 0)] 134 1
/-- (*railplan/operate.simulation).second -/
def awk256 : Cut where
  f := 127
  n := 141463
  args := [(.pointer (some ⟨135522, 0, none⟩))]
  pre := [(135522, awb62), (77594, awb24), (8377, awb6), (8957, awb7), (10236, awb17), (10238, awb18), (10227, awb8), (10242, awb19), (10240, awb20), (79054, awb21), (79371, awb13), (79377, awb14), (79350, awb6), (79585, awb7), (79362, awb10), (77592, awb23), (126457, .cells [(.int .i64 (-16)), (.int .i64 (-16))] 3 1), (126469, .cells [(.int .i64 0), (.int .i64 28)] 3 1), (126482, .cells [(.int .i64 33), (.int .i64 61)] 3 1), (126553, awb25), (126509, awb22), (135928, awb37), (135927, awb38), (135683, awb39), (135904, awb27), (129674, awb30), (129406, .cells [(.int .i64 0), (.int .i64 0)] 247 2), (129433, .cells [(.int .i64 0), (.int .i64 1)] 247 2), (129460, .cells [(.int .i64 0), (.int .i64 2)] 247 2), (135934, awb40), (135606, awb41), (135614, awb54), (138718, awb50), (138716, awb60), (138712, .cells [(.bool false), (.bool false)] 4 1), (138714, .cells [(.bool false), (.bool false)] 4 1), (139511, .cells [(.int .i64 2), (.int .i64 217)] 371 2), (135520, awb43), (135543, .cells [(.int .i64 1)] 3 1), (135561, .cells [(.int .i64 1)] 3 1), (135579, .cells [(.int .i64 1)] 3 1), (141396, awb61)]
  v := (.tuple #[])
  post := [(135522, awb62), (77594, awb24), (8377, awb6), (8957, awb7), (10236, awb17), (10238, awb18), (10227, awb8), (10242, awb19), (10240, awb20), (79054, awb21), (79371, awb13), (79377, awb14), (79350, awb6), (79585, awb7), (79362, awb10), (77592, awb23), (126457, .cells [(.int .i64 (-16)), (.int .i64 (-16))] 3 1), (126469, .cells [(.int .i64 0), (.int .i64 28)] 3 1), (126482, .cells [(.int .i64 33), (.int .i64 61)] 3 1), (126553, awb25), (126509, awb22), (135928, awb37), (135927, awb38), (135683, awb39), (135904, awb27), (129674, awb30), (129406, .cells [(.int .i64 0), (.int .i64 0)] 247 2), (129433, .cells [(.int .i64 0), (.int .i64 1)] 247 2), (129460, .cells [(.int .i64 0), (.int .i64 2)] 247 2), (135934, awb40), (135606, awb41), (135614, awb54), (138718, awb50), (138716, awb60), (138712, .cells [(.bool false), (.bool false)] 4 1), (138714, .cells [(.bool false), (.bool false)] 4 1), (139511, .cells [(.int .i64 2), (.int .i64 217)] 371 2), (135520, awb43), (135543, .cells [(.int .i64 1)] 3 1), (135561, .cells [(.int .i64 1)] 3 1), (135579, .cells [(.int .i64 1)] 3 1), (141396, awb61)]
  n2 := 142076
  frame := [76568, 10245, 76506, 76518, 76531]
def awk256_h : Hook := (fun _ _ _ _ => none)
/-- (*railplan/operate.simulation).following -/
def awk257 : Cut where
  f := 126
  n := 142078
  args := [(.pointer (some ⟨135522, 0, none⟩))]
  pre := [(135522, awb62), (77594, awb24), (8377, awb6), (8957, awb7), (10236, awb17), (10238, awb18), (10227, awb8), (10242, awb19), (10240, awb20), (79054, awb21), (79371, awb13), (79377, awb14), (79350, awb6), (79585, awb7), (79362, awb10), (77592, awb23), (126457, .cells [(.int .i64 (-16)), (.int .i64 (-16))] 3 1), (126469, .cells [(.int .i64 0), (.int .i64 28)] 3 1), (126482, .cells [(.int .i64 33), (.int .i64 61)] 3 1), (126553, awb25), (126509, awb22), (135928, awb37), (135927, awb38), (135683, awb39), (135904, awb27), (129674, awb30), (129406, .cells [(.int .i64 0), (.int .i64 0)] 247 2), (129433, .cells [(.int .i64 0), (.int .i64 1)] 247 2), (129460, .cells [(.int .i64 0), (.int .i64 2)] 247 2), (135934, awb40), (135606, awb41), (135614, awb54), (138718, awb50), (138716, awb60), (138712, .cells [(.bool false), (.bool false)] 4 1), (138714, .cells [(.bool false), (.bool false)] 4 1), (139511, .cells [(.int .i64 2), (.int .i64 217)] 371 2), (135520, awb43), (135543, .cells [(.int .i64 1)] 3 1), (135561, .cells [(.int .i64 1)] 3 1), (135579, .cells [(.int .i64 1)] 3 1), (141396, awb61)]
  v := (.int .i64 133)
  post := [(135522, awb62), (77594, awb24), (8377, awb6), (8957, awb7), (10236, awb17), (10238, awb18), (10227, awb8), (10242, awb19), (10240, awb20), (79054, awb21), (79371, awb13), (79377, awb14), (79350, awb6), (79585, awb7), (79362, awb10), (77592, awb23), (126457, .cells [(.int .i64 (-16)), (.int .i64 (-16))] 3 1), (126469, .cells [(.int .i64 0), (.int .i64 28)] 3 1), (126482, .cells [(.int .i64 33), (.int .i64 61)] 3 1), (126553, awb25), (126509, awb22), (135928, awb37), (135927, awb38), (135683, awb39), (135904, awb27), (129674, awb30), (129406, .cells [(.int .i64 0), (.int .i64 0)] 247 2), (129433, .cells [(.int .i64 0), (.int .i64 1)] 247 2), (129460, .cells [(.int .i64 0), (.int .i64 2)] 247 2), (135934, awb40), (135606, awb41), (135614, awb54), (138718, awb50), (138716, awb60), (138712, .cells [(.bool false), (.bool false)] 4 1), (138714, .cells [(.bool false), (.bool false)] 4 1), (139511, .cells [(.int .i64 2), (.int .i64 217)] 371 2), (135520, awb43), (135543, .cells [(.int .i64 1)] 3 1), (135561, .cells [(.int .i64 1)] 3 1), (135579, .cells [(.int .i64 1)] 3 1), (141396, awb61)]
  n2 := 142498
  frame := [76568, 10245, 76506, 76518, 76531]
def awk257_h : Hook := (fun _ _ _ _ => none)
def awb63 : EBlk := .cells [(.pointer (some ⟨77594, 0, none⟩)), (.slice none 0 0), (.func (.func 46) #[] #[(.pointer (some ⟨135928, 0, none⟩))]), (.func (.func 48) #[(.pointer (some ⟨135927, 0, none⟩))] #[]), (.int .i64 133), (.slice (some ⟨135606, 0, none⟩) 1 FULL), (.slice (some ⟨135520, 0, none⟩) 3 3), (.int .i64 3), (.slice (some ⟨141396, 0, none⟩) 4 FULL), (.bool false), (.slice none 0 0)] 134 1
def awb64 : EBlk := .cells [(.pointer (some ⟨135522, 0, none⟩))] 121 1
def awb65 : EBlk := .cells [(.pointer (some ⟨77594, 0, none⟩)), (.slice none 0 0), (.func (.func 46) #[] #[(.pointer (some ⟨135928, 0, none⟩))]), (.func (.func 48) #[(.pointer (some ⟨135927, 0, none⟩))] #[]), (.int .i64 133), (.slice (some ⟨135606, 0, none⟩) 1 FULL), (.slice (some ⟨135520, 0, none⟩) 3 3), (.int .i64 2), (.slice (some ⟨142741, 0, none⟩) 5 FULL), (.bool true), (.slice none 0 0)] 134 1
def awb66 : EBlk := .cells [(.int .i64 40), (.int .i64 5), (.int .i64 0), (.int .i64 0), (.int .i64 0), (.int .i64 0), (.int .i64 84), (.int .i64 5), (.int .i64 0), (.int .i64 0), (.int .i64 1), (.int .i64 0), (.int .i64 84), (.int .i64 5), (.int .i64 0), (.int .i64 0), (.int .i64 2), (.int .i64 0), (.int .i64 100), (.int .i64 8), (.int .i64 0), (.int .i64 0), (.int .i64 0), (.int .i64 0), (.int .i64 133), (.int .i64 1), (.int .i64 0), (.int .i64 0), (.int .i64 0), (.int .i64 0)] 51 6
/-- (*railplan/operate.simulation).pending -/
def awk258 : Cut where
  f := 221
  n := 142556
  args := [(.pointer (some ⟨135522, 0, none⟩)), (.pointer (some ⟨135614, 0, none⟩)), (.func (.func 333) #[] #[(.pointer (some ⟨142550, 0, none⟩)), (.pointer (some ⟨142551, 0, none⟩))])]
  pre := [(135522, awb63), (77594, awb24), (8377, awb6), (8957, awb7), (10236, awb17), (10238, awb18), (10227, awb8), (10242, awb19), (10240, awb20), (79054, awb21), (79371, awb13), (79377, awb14), (79350, awb6), (79585, awb7), (79362, awb10), (77592, awb23), (126457, .cells [(.int .i64 (-16)), (.int .i64 (-16))] 3 1), (126469, .cells [(.int .i64 0), (.int .i64 28)] 3 1), (126482, .cells [(.int .i64 33), (.int .i64 61)] 3 1), (126553, awb25), (126509, awb22), (135928, awb37), (135927, awb38), (135683, awb39), (135904, awb27), (129674, awb30), (129406, .cells [(.int .i64 0), (.int .i64 0)] 247 2), (129433, .cells [(.int .i64 0), (.int .i64 1)] 247 2), (129460, .cells [(.int .i64 0), (.int .i64 2)] 247 2), (135934, awb40), (135606, awb41), (135614, awb54), (138718, awb50), (138716, awb60), (138712, .cells [(.bool false), (.bool false)] 4 1), (138714, .cells [(.bool false), (.bool false)] 4 1), (139511, .cells [(.int .i64 2), (.int .i64 217)] 371 2), (135520, awb43), (135543, .cells [(.int .i64 1)] 3 1), (135561, .cells [(.int .i64 1)] 3 1), (135579, .cells [(.int .i64 1)] 3 1), (141396, awb61), (142550, awb64), (142551, awb41)]
  v := (.tuple #[])
  post := [(135522, awb65), (77594, awb24), (8377, awb6), (8957, awb7), (10236, awb17), (10238, awb18), (10227, awb8), (10242, awb19), (10240, awb20), (79054, awb21), (79371, awb13), (79377, awb14), (79350, awb6), (79585, awb7), (79362, awb10), (77592, awb23), (126457, .cells [(.int .i64 (-16)), (.int .i64 (-16))] 3 1), (126469, .cells [(.int .i64 0), (.int .i64 28)] 3 1), (126482, .cells [(.int .i64 33), (.int .i64 61)] 3 1), (126553, awb25), (126509, awb22), (135928, awb37), (135927, awb38), (135683, awb39), (135904, awb27), (129674, awb30), (129406, .cells [(.int .i64 0), (.int .i64 0)] 247 2), (129433, .cells [(.int .i64 0), (.int .i64 1)] 247 2), (129460, .cells [(.int .i64 0), (.int .i64 2)] 247 2), (135934, awb40), (135606, awb41), (135614, awb54), (138718, awb50), (138716, awb60), (138712, .cells [(.bool true), (.bool false)] 4 1), (138714, .cells [(.bool false), (.bool false)] 4 1), (139511, .cells [(.int .i64 2), (.int .i64 217)] 371 2), (135520, awb43), (135543, .cells [(.int .i64 0)] 3 1), (135561, .cells [(.int .i64 1)] 3 1), (135579, .cells [(.int .i64 1)] 3 1), (142741, awb66), (142550, awb64), (142551, awb41)]
  n2 := 142876
  frame := [76568, 10245, 76506, 76518, 76531]
def awk258_h : Hook := (fun _ _ _ _ => none)
/-- (*railplan/operate.simulation).second -/
def awk259 : Cut where
  f := 127
  n := 142537
  args := [(.pointer (some ⟨135522, 0, none⟩))]
  pre := [(135522, awb63), (77594, awb24), (8377, awb6), (8957, awb7), (10236, awb17), (10238, awb18), (10227, awb8), (10242, awb19), (10240, awb20), (79054, awb21), (79371, awb13), (79377, awb14), (79350, awb6), (79585, awb7), (79362, awb10), (77592, awb23), (126457, .cells [(.int .i64 (-16)), (.int .i64 (-16))] 3 1), (126469, .cells [(.int .i64 0), (.int .i64 28)] 3 1), (126482, .cells [(.int .i64 33), (.int .i64 61)] 3 1), (126553, awb25), (126509, awb22), (135928, awb37), (135927, awb38), (135683, awb39), (135904, awb27), (129674, awb30), (129406, .cells [(.int .i64 0), (.int .i64 0)] 247 2), (129433, .cells [(.int .i64 0), (.int .i64 1)] 247 2), (129460, .cells [(.int .i64 0), (.int .i64 2)] 247 2), (135934, awb40), (135606, awb41), (135614, awb54), (138718, awb50), (138716, awb60), (138712, .cells [(.bool false), (.bool false)] 4 1), (138714, .cells [(.bool false), (.bool false)] 4 1), (139511, .cells [(.int .i64 2), (.int .i64 217)] 371 2), (135520, awb43), (135543, .cells [(.int .i64 1)] 3 1), (135561, .cells [(.int .i64 1)] 3 1), (135579, .cells [(.int .i64 1)] 3 1), (141396, awb61)]
  v := (.tuple #[])
  post := [(135522, awb65), (77594, awb24), (8377, awb6), (8957, awb7), (10236, awb17), (10238, awb18), (10227, awb8), (10242, awb19), (10240, awb20), (79054, awb21), (79371, awb13), (79377, awb14), (79350, awb6), (79585, awb7), (79362, awb10), (77592, awb23), (126457, .cells [(.int .i64 (-16)), (.int .i64 (-16))] 3 1), (126469, .cells [(.int .i64 0), (.int .i64 28)] 3 1), (126482, .cells [(.int .i64 33), (.int .i64 61)] 3 1), (126553, awb25), (126509, awb22), (135928, awb37), (135927, awb38), (135683, awb39), (135904, awb27), (129674, awb30), (129406, .cells [(.int .i64 0), (.int .i64 0)] 247 2), (129433, .cells [(.int .i64 0), (.int .i64 1)] 247 2), (129460, .cells [(.int .i64 0), (.int .i64 2)] 247 2), (135934, awb40), (135606, awb41), (135614, awb54), (138718, awb50), (138716, awb60), (138712, .cells [(.bool true), (.bool false)] 4 1), (138714, .cells [(.bool false), (.bool false)] 4 1), (139511, .cells [(.int .i64 2), (.int .i64 217)] 371 2), (135520, awb43), (135543, .cells [(.int .i64 0)] 3 1), (135561, .cells [(.int .i64 1)] 3 1), (135579, .cells [(.int .i64 1)] 3 1), (142741, awb66)]
  n2 := 143235
  frame := [76568, 10245, 76506, 76518, 76531]
def awk259_h : Hook := (cutHook awk258 (fun _ _ _ _ => none))
def awb67 : EBlk := .cells [(.pointer (some ⟨77594, 0, none⟩)), (.slice none 0 0), (.func (.func 46) #[] #[(.pointer (some ⟨135928, 0, none⟩))]), (.func (.func 48) #[(.pointer (some ⟨135927, 0, none⟩))] #[]), (.int .i64 134), (.slice (some ⟨135606, 0, none⟩) 1 FULL), (.slice (some ⟨135520, 0, none⟩) 3 3), (.int .i64 2), (.slice (some ⟨142741, 0, none⟩) 5 FULL), (.bool false), (.slice none 0 0)] 134 1
/-- (*railplan/operate.simulation).second -/
def awk260 : Cut where
  f := 127
  n := 143288
  args := [(.pointer (some ⟨135522, 0, none⟩))]
  pre := [(135522, awb67), (77594, awb24), (8377, awb6), (8957, awb7), (10236, awb17), (10238, awb18), (10227, awb8), (10242, awb19), (10240, awb20), (79054, awb21), (79371, awb13), (79377, awb14), (79350, awb6), (79585, awb7), (79362, awb10), (77592, awb23), (126457, .cells [(.int .i64 (-16)), (.int .i64 (-16))] 3 1), (126469, .cells [(.int .i64 0), (.int .i64 28)] 3 1), (126482, .cells [(.int .i64 33), (.int .i64 61)] 3 1), (126553, awb25), (126509, awb22), (135928, awb37), (135927, awb38), (135683, awb39), (135904, awb27), (129674, awb30), (129406, .cells [(.int .i64 0), (.int .i64 0)] 247 2), (129433, .cells [(.int .i64 0), (.int .i64 1)] 247 2), (129460, .cells [(.int .i64 0), (.int .i64 2)] 247 2), (135934, awb40), (135606, awb41), (135614, awb54), (138718, awb50), (138716, awb60), (138712, .cells [(.bool true), (.bool false)] 4 1), (138714, .cells [(.bool false), (.bool false)] 4 1), (139511, .cells [(.int .i64 2), (.int .i64 217)] 371 2), (135520, awb43), (135543, .cells [(.int .i64 0)] 3 1), (135561, .cells [(.int .i64 1)] 3 1), (135579, .cells [(.int .i64 1)] 3 1), (142741, awb66)]
  v := (.tuple #[])
  post := [(135522, awb67), (77594, awb24), (8377, awb6), (8957, awb7), (10236, awb17), (10238, awb18), (10227, awb8), (10242, awb19), (10240, awb20), (79054, awb21), (79371, awb13), (79377, awb14), (79350, awb6), (79585, awb7), (79362, awb10), (77592, awb23), (126457, .cells [(.int .i64 (-16)), (.int .i64 (-16))] 3 1), (126469, .cells [(.int .i64 0), (.int .i64 28)] 3 1), (126482, .cells [(.int .i64 33), (.int .i64 61)] 3 1), (126553, awb25), (126509, awb22), (135928, awb37), (135927, awb38), (135683, awb39), (135904, awb27), (129674, awb30), (129406, .cells [(.int .i64 0), (.int .i64 0)] 247 2), (129433, .cells [(.int .i64 0), (.int .i64 1)] 247 2), (129460, .cells [(.int .i64 0), (.int .i64 2)] 247 2), (135934, awb40), (135606, awb41), (135614, awb54), (138718, awb50), (138716, awb60), (138712, .cells [(.bool true), (.bool false)] 4 1), (138714, .cells [(.bool false), (.bool false)] 4 1), (139511, .cells [(.int .i64 2), (.int .i64 217)] 371 2), (135520, awb43), (135543, .cells [(.int .i64 0)] 3 1), (135561, .cells [(.int .i64 1)] 3 1), (135579, .cells [(.int .i64 1)] 3 1), (142741, awb66)]
  n2 := 143859
  frame := [76568, 10245, 76506, 76518, 76531]
def awk260_h : Hook := (fun _ _ _ _ => none)
/-- (*railplan/operate.simulation).following -/
def awk261 : Cut where
  f := 126
  n := 143861
  args := [(.pointer (some ⟨135522, 0, none⟩))]
  pre := [(135522, awb67), (77594, awb24), (8377, awb6), (8957, awb7), (10236, awb17), (10238, awb18), (10227, awb8), (10242, awb19), (10240, awb20), (79054, awb21), (79371, awb13), (79377, awb14), (79350, awb6), (79585, awb7), (79362, awb10), (77592, awb23), (126457, .cells [(.int .i64 (-16)), (.int .i64 (-16))] 3 1), (126469, .cells [(.int .i64 0), (.int .i64 28)] 3 1), (126482, .cells [(.int .i64 33), (.int .i64 61)] 3 1), (126553, awb25), (126509, awb22), (135928, awb37), (135927, awb38), (135683, awb39), (135904, awb27), (129674, awb30), (129406, .cells [(.int .i64 0), (.int .i64 0)] 247 2), (129433, .cells [(.int .i64 0), (.int .i64 1)] 247 2), (129460, .cells [(.int .i64 0), (.int .i64 2)] 247 2), (135934, awb40), (135606, awb41), (135614, awb54), (138718, awb50), (138716, awb60), (138712, .cells [(.bool true), (.bool false)] 4 1), (138714, .cells [(.bool false), (.bool false)] 4 1), (139511, .cells [(.int .i64 2), (.int .i64 217)] 371 2), (135520, awb43), (135543, .cells [(.int .i64 0)] 3 1), (135561, .cells [(.int .i64 1)] 3 1), (135579, .cells [(.int .i64 1)] 3 1), (142741, awb66)]
  v := (.int .i64 157)
  post := [(135522, awb67), (77594, awb24), (8377, awb6), (8957, awb7), (10236, awb17), (10238, awb18), (10227, awb8), (10242, awb19), (10240, awb20), (79054, awb21), (79371, awb13), (79377, awb14), (79350, awb6), (79585, awb7), (79362, awb10), (77592, awb23), (126457, .cells [(.int .i64 (-16)), (.int .i64 (-16))] 3 1), (126469, .cells [(.int .i64 0), (.int .i64 28)] 3 1), (126482, .cells [(.int .i64 33), (.int .i64 61)] 3 1), (126553, awb25), (126509, awb22), (135928, awb37), (135927, awb38), (135683, awb39), (135904, awb27), (129674, awb30), (129406, .cells [(.int .i64 0), (.int .i64 0)] 247 2), (129433, .cells [(.int .i64 0), (.int .i64 1)] 247 2), (129460, .cells [(.int .i64 0), (.int .i64 2)] 247 2), (135934, awb40), (135606, awb41), (135614, awb54), (138718, awb50), (138716, awb60), (138712, .cells [(.bool true), (.bool false)] 4 1), (138714, .cells [(.bool false), (.bool false)] 4 1), (139511, .cells [(.int .i64 2), (.int .i64 217)] 371 2), (135520, awb43), (135543, .cells [(.int .i64 0)] 3 1), (135561, .cells [(.int .i64 1)] 3 1), (135579, .cells [(.int .i64 1)] 3 1), (142741, awb66)]
  n2 := 144232
  frame := [76568, 10245, 76506, 76518, 76531]
def awk261_h : Hook := (fun _ _ _ _ => none)
def awb68 : EBlk := .cells [(.pointer (some ⟨77594, 0, none⟩)), (.slice none 0 0), (.func (.func 46) #[] #[(.pointer (some ⟨135928, 0, none⟩))]), (.func (.func 48) #[(.pointer (some ⟨135927, 0, none⟩))] #[]), (.int .i64 157), (.slice (some ⟨135606, 0, none⟩) 1 FULL), (.slice (some ⟨135520, 0, none⟩) 3 3), (.int .i64 2), (.slice (some ⟨142741, 0, none⟩) 5 FULL), (.bool false), (.slice none 0 0)] 134 1
def awb69 : EBlk := .cells [(.pointer (some ⟨77594, 0, none⟩)), (.slice none 0 0), (.func (.func 46) #[] #[(.pointer (some ⟨135928, 0, none⟩))]), (.func (.func 48) #[(.pointer (some ⟨135927, 0, none⟩))] #[]), (.int .i64 157), (.slice (some ⟨135606, 0, none⟩) 1 FULL), (.slice (some ⟨135520, 0, none⟩) 3 3), (.int .i64 2), (.slice (some ⟨144598, 0, none⟩) 6 FULL), (.bool true), (.slice none 0 0)] 134 1
def awb70 : EBlk := .cells [(.int .i64 0), (.int .i64 0), (.int .i64 2), (.int .i64 100), (.int .i64 0), (.int .i64 2), (.slice (some ⟨126457, 0, none⟩) 2 FULL), (.slice (some ⟨126469, 0, none⟩) 2 FULL), (.slice (some ⟨126482, 0, none⟩) 2 FULL), (.int .i64 0), (.int .i64 57), (.int .i64 157), (.bool true), (.bool true), (.slice (some ⟨138712, 0, none⟩) 2 2), (.slice (some ⟨138714, 0, none⟩) 2 2)] 369 1
def awb71 : EBlk := .cells [(.int .i64 40), (.int .i64 5), (.int .i64 0), (.int .i64 0), (.int .i64 0), (.int .i64 0), (.int .i64 84), (.int .i64 5), (.int .i64 0), (.int .i64 0), (.int .i64 1), (.int .i64 0), (.int .i64 84), (.int .i64 5), (.int .i64 0), (.int .i64 0), (.int .i64 2), (.int .i64 0), (.int .i64 100), (.int .i64 8), (.int .i64 0), (.int .i64 0), (.int .i64 0), (.int .i64 0), (.int .i64 133), (.int .i64 1), (.int .i64 0), (.int .i64 0), (.int .i64 0), (.int .i64 0), (.int .i64 157), (.int .i64 2), (.int .i64 0), (.int .i64 0), (.int .i64 2), (.int .i64 0)] 51 6
/-- (*railplan/operate.simulation).second -/
def awk262 : Cut where
  f := 127
  n := 144271
  args := [(.pointer (some ⟨135522, 0, none⟩))]
  pre := [(135522, awb68), (77594, awb24), (8377, awb6), (8957, awb7), (10236, awb17), (10238, awb18), (10227, awb8), (10242, awb19), (10240, awb20), (79054, awb21), (79371, awb13), (79377, awb14), (79350, awb6), (79585, awb7), (79362, awb10), (77592, awb23), (126457, .cells [(.int .i64 (-16)), (.int .i64 (-16))] 3 1), (126469, .cells [(.int .i64 0), (.int .i64 28)] 3 1), (126482, .cells [(.int .i64 33), (.int .i64 61)] 3 1), (126553, awb25), (126509, awb22), (135928, awb37), (135927, awb38), (135683, awb39), (135904, awb27), (129674, awb30), (129406, .cells [(.int .i64 0), (.int .i64 0)] 247 2), (129433, .cells [(.int .i64 0), (.int .i64 1)] 247 2), (129460, .cells [(.int .i64 0), (.int .i64 2)] 247 2), (135934, awb40), (135606, awb41), (135614, awb54), (138718, awb50), (138716, awb60), (138712, .cells [(.bool true), (.bool false)] 4 1), (138714, .cells [(.bool false), (.bool false)] 4 1), (139511, .cells [(.int .i64 2), (.int .i64 217)] 371 2), (135520, awb43), (135543, .cells [(.int .i64 0)] 3 1), (135561, .cells [(.int .i64 1)] 3 1), (135579, .cells [(.int .i64 1)] 3 1), (142741, awb66)]
  v := (.tuple #[])
  post := [(135522, awb69), (77594, awb24), (8377, awb6), (8957, awb7), (10236, awb17), (10238, awb18), (10227, awb8), (10242, awb19), (10240, awb20), (79054, awb21), (79371, awb13), (79377, awb14), (79350, awb6), (79585, awb7), (79362, awb10), (77592, awb23), (126457, .cells [(.int .i64 (-16)), (.int .i64 (-16))] 3 1), (126469, .cells [(.int .i64 0), (.int .i64 28)] 3 1), (126482, .cells [(.int .i64 33), (.int .i64 61)] 3 1), (126553, awb25), (126509, awb22), (135928, awb37), (135927, awb38), (135683, awb39), (135904, awb27), (129674, awb30), (129406, .cells [(.int .i64 0), (.int .i64 0)] 247 2), (129433, .cells [(.int .i64 0), (.int .i64 1)] 247 2), (129460, .cells [(.int .i64 0), (.int .i64 2)] 247 2), (135934, awb40), (135606, awb41), (135614, awb54), (138718, awb50), (138716, awb70), (138712, .cells [(.bool true), (.bool false)] 4 1), (138714, .cells [(.bool false), (.bool false)] 4 1), (139511, .cells [(.int .i64 2), (.int .i64 217)] 371 2), (135520, awb43), (135543, .cells [(.int .i64 0)] 3 1), (135561, .cells [(.int .i64 1)] 3 1), (135579, .cells [(.int .i64 1)] 3 1), (144598, awb71)]
  n2 := 144883
  frame := [76568, 10245, 76506, 76518, 76531]
def awk262_h : Hook := (fun _ _ _ _ => none)
def awb72 : EBlk := .cells [(.pointer (some ⟨77594, 0, none⟩)), (.slice none 0 0), (.func (.func 46) #[] #[(.pointer (some ⟨135928, 0, none⟩))]), (.func (.func 48) #[(.pointer (some ⟨135927, 0, none⟩))] #[]), (.int .i64 158), (.slice (some ⟨135606, 0, none⟩) 1 FULL), (.slice (some ⟨135520, 0, none⟩) 3 3), (.int .i64 2), (.slice (some ⟨144598, 0, none⟩) 6 FULL), (.bool false), (.slice none 0 0)] 134 1
/-- (*railplan/operate.simulation).second -/
def awk263 : Cut where
  f := 127
  n := 144936
  args := [(.pointer (some ⟨135522, 0, none⟩))]
  pre := [(135522, awb72), (77594, awb24), (8377, awb6), (8957, awb7), (10236, awb17), (10238, awb18), (10227, awb8), (10242, awb19), (10240, awb20), (79054, awb21), (79371, awb13), (79377, awb14), (79350, awb6), (79585, awb7), (79362, awb10), (77592, awb23), (126457, .cells [(.int .i64 (-16)), (.int .i64 (-16))] 3 1), (126469, .cells [(.int .i64 0), (.int .i64 28)] 3 1), (126482, .cells [(.int .i64 33), (.int .i64 61)] 3 1), (126553, awb25), (126509, awb22), (135928, awb37), (135927, awb38), (135683, awb39), (135904, awb27), (129674, awb30), (129406, .cells [(.int .i64 0), (.int .i64 0)] 247 2), (129433, .cells [(.int .i64 0), (.int .i64 1)] 247 2), (129460, .cells [(.int .i64 0), (.int .i64 2)] 247 2), (135934, awb40), (135606, awb41), (135614, awb54), (138718, awb50), (138716, awb70), (138712, .cells [(.bool true), (.bool false)] 4 1), (138714, .cells [(.bool false), (.bool false)] 4 1), (139511, .cells [(.int .i64 2), (.int .i64 217)] 371 2), (135520, awb43), (135543, .cells [(.int .i64 0)] 3 1), (135561, .cells [(.int .i64 1)] 3 1), (135579, .cells [(.int .i64 1)] 3 1), (144598, awb71)]
  v := (.tuple #[])
  post := [(135522, awb72), (77594, awb24), (8377, awb6), (8957, awb7), (10236, awb17), (10238, awb18), (10227, awb8), (10242, awb19), (10240, awb20), (79054, awb21), (79371, awb13), (79377, awb14), (79350, awb6), (79585, awb7), (79362, awb10), (77592, awb23), (126457, .cells [(.int .i64 (-16)), (.int .i64 (-16))] 3 1), (126469, .cells [(.int .i64 0), (.int .i64 28)] 3 1), (126482, .cells [(.int .i64 33), (.int .i64 61)] 3 1), (126553, awb25), (126509, awb22), (135928, awb37), (135927, awb38), (135683, awb39), (135904, awb27), (129674, awb30), (129406, .cells [(.int .i64 0), (.int .i64 0)] 247 2), (129433, .cells [(.int .i64 0), (.int .i64 1)] 247 2), (129460, .cells [(.int .i64 0), (.int .i64 2)] 247 2), (135934, awb40), (135606, awb41), (135614, awb54), (138718, awb50), (138716, awb70), (138712, .cells [(.bool true), (.bool false)] 4 1), (138714, .cells [(.bool false), (.bool false)] 4 1), (139511, .cells [(.int .i64 2), (.int .i64 217)] 371 2), (135520, awb43), (135543, .cells [(.int .i64 0)] 3 1), (135561, .cells [(.int .i64 1)] 3 1), (135579, .cells [(.int .i64 1)] 3 1), (144598, awb71)]
  n2 := 145507
  frame := [76568, 10245, 76506, 76518, 76531]
def awk263_h : Hook := (fun _ _ _ _ => none)
/-- (*railplan/operate.simulation).following -/
def awk264 : Cut where
  f := 126
  n := 145509
  args := [(.pointer (some ⟨135522, 0, none⟩))]
  pre := [(135522, awb72), (77594, awb24), (8377, awb6), (8957, awb7), (10236, awb17), (10238, awb18), (10227, awb8), (10242, awb19), (10240, awb20), (79054, awb21), (79371, awb13), (79377, awb14), (79350, awb6), (79585, awb7), (79362, awb10), (77592, awb23), (126457, .cells [(.int .i64 (-16)), (.int .i64 (-16))] 3 1), (126469, .cells [(.int .i64 0), (.int .i64 28)] 3 1), (126482, .cells [(.int .i64 33), (.int .i64 61)] 3 1), (126553, awb25), (126509, awb22), (135928, awb37), (135927, awb38), (135683, awb39), (135904, awb27), (129674, awb30), (129406, .cells [(.int .i64 0), (.int .i64 0)] 247 2), (129433, .cells [(.int .i64 0), (.int .i64 1)] 247 2), (129460, .cells [(.int .i64 0), (.int .i64 2)] 247 2), (135934, awb40), (135606, awb41), (135614, awb54), (138718, awb50), (138716, awb70), (138712, .cells [(.bool true), (.bool false)] 4 1), (138714, .cells [(.bool false), (.bool false)] 4 1), (139511, .cells [(.int .i64 2), (.int .i64 217)] 371 2), (135520, awb43), (135543, .cells [(.int .i64 0)] 3 1), (135561, .cells [(.int .i64 1)] 3 1), (135579, .cells [(.int .i64 1)] 3 1), (144598, awb71)]
  v := (.int .i64 161)
  post := [(135522, awb72), (77594, awb24), (8377, awb6), (8957, awb7), (10236, awb17), (10238, awb18), (10227, awb8), (10242, awb19), (10240, awb20), (79054, awb21), (79371, awb13), (79377, awb14), (79350, awb6), (79585, awb7), (79362, awb10), (77592, awb23), (126457, .cells [(.int .i64 (-16)), (.int .i64 (-16))] 3 1), (126469, .cells [(.int .i64 0), (.int .i64 28)] 3 1), (126482, .cells [(.int .i64 33), (.int .i64 61)] 3 1), (126553, awb25), (126509, awb22), (135928, awb37), (135927, awb38), (135683, awb39), (135904, awb27), (129674, awb30), (129406, .cells [(.int .i64 0), (.int .i64 0)] 247 2), (129433, .cells [(.int .i64 0), (.int .i64 1)] 247 2), (129460, .cells [(.int .i64 0), (.int .i64 2)] 247 2), (135934, awb40), (135606, awb41), (135614, awb54), (138718, awb50), (138716, awb70), (138712, .cells [(.bool true), (.bool false)] 4 1), (138714, .cells [(.bool false), (.bool false)] 4 1), (139511, .cells [(.int .i64 2), (.int .i64 217)] 371 2), (135520, awb43), (135543, .cells [(.int .i64 0)] 3 1), (135561, .cells [(.int .i64 1)] 3 1), (135579, .cells [(.int .i64 1)] 3 1), (144598, awb71)]
  n2 := 145876
  frame := [76568, 10245, 76506, 76518, 76531]
def awk264_h : Hook := (fun _ _ _ _ => none)
def awb73 : EBlk := .cells [(.pointer (some ⟨77594, 0, none⟩)), (.slice none 0 0), (.func (.func 46) #[] #[(.pointer (some ⟨135928, 0, none⟩))]), (.func (.func 48) #[(.pointer (some ⟨135927, 0, none⟩))] #[]), (.int .i64 161), (.slice (some ⟨135606, 0, none⟩) 1 FULL), (.slice (some ⟨135520, 0, none⟩) 3 3), (.int .i64 2), (.slice (some ⟨144598, 0, none⟩) 6 FULL), (.bool false), (.slice none 0 0)] 134 1
def awb74 : EBlk := .cells [(.pointer (some ⟨77594, 0, none⟩)), (.slice none 0 0), (.func (.func 46) #[] #[(.pointer (some ⟨135928, 0, none⟩))]), (.func (.func 48) #[(.pointer (some ⟨135927, 0, none⟩))] #[]), (.int .i64 161), (.slice (some ⟨135606, 0, none⟩) 1 FULL), (.slice (some ⟨135520, 0, none⟩) 3 3), (.int .i64 1), (.slice (some ⟨146176, 0, none⟩) 7 FULL), (.bool true), (.slice none 0 0)] 134 1
def awb75 : EBlk := .cells [(.int .i64 40), (.int .i64 5), (.int .i64 0), (.int .i64 0), (.int .i64 0), (.int .i64 0), (.int .i64 84), (.int .i64 5), (.int .i64 0), (.int .i64 0), (.int .i64 1), (.int .i64 0), (.int .i64 84), (.int .i64 5), (.int .i64 0), (.int .i64 0), (.int .i64 2), (.int .i64 0), (.int .i64 100), (.int .i64 8), (.int .i64 0), (.int .i64 0), (.int .i64 0), (.int .i64 0), (.int .i64 133), (.int .i64 1), (.int .i64 0), (.int .i64 0), (.int .i64 0), (.int .i64 0), (.int .i64 157), (.int .i64 2), (.int .i64 0), (.int .i64 0), (.int .i64 2), (.int .i64 0), (.int .i64 161), (.int .i64 1), (.int .i64 0), (.int .i64 0), (.int .i64 0), (.int .i64 1)] 51 6
/-- (*railplan/operate.simulation).free -/
def awk265 : Cut where
  f := 223
  n := 145928
  args := [(.pointer (some ⟨135522, 0, none⟩)), (.pointer (some ⟨135614, 0, none⟩))]
  pre := [(135522, awb73), (77594, awb24), (8377, awb6), (8957, awb7), (10236, awb17), (10238, awb18), (10227, awb8), (10242, awb19), (10240, awb20), (79054, awb21), (79371, awb13), (79377, awb14), (79350, awb6), (79585, awb7), (79362, awb10), (77592, awb23), (126457, .cells [(.int .i64 (-16)), (.int .i64 (-16))] 3 1), (126469, .cells [(.int .i64 0), (.int .i64 28)] 3 1), (126482, .cells [(.int .i64 33), (.int .i64 61)] 3 1), (126553, awb25), (126509, awb22), (135928, awb37), (135927, awb38), (135683, awb39), (135904, awb27), (129674, awb30), (129406, .cells [(.int .i64 0), (.int .i64 0)] 247 2), (129433, .cells [(.int .i64 0), (.int .i64 1)] 247 2), (129460, .cells [(.int .i64 0), (.int .i64 2)] 247 2), (135934, awb40), (135606, awb41), (135614, awb54), (138718, awb50), (138716, awb70), (138712, .cells [(.bool true), (.bool false)] 4 1), (138714, .cells [(.bool false), (.bool false)] 4 1), (139511, .cells [(.int .i64 2), (.int .i64 217)] 371 2), (135520, awb43), (135543, .cells [(.int .i64 0)] 3 1), (135561, .cells [(.int .i64 1)] 3 1), (135579, .cells [(.int .i64 1)] 3 1), (144598, awb71)]
  v := (.tuple #[])
  post := [(135522, awb74), (77594, awb24), (8377, awb6), (8957, awb7), (10236, awb17), (10238, awb18), (10227, awb8), (10242, awb19), (10240, awb20), (79054, awb21), (79371, awb13), (79377, awb14), (79350, awb6), (79585, awb7), (79362, awb10), (77592, awb23), (126457, .cells [(.int .i64 (-16)), (.int .i64 (-16))] 3 1), (126469, .cells [(.int .i64 0), (.int .i64 28)] 3 1), (126482, .cells [(.int .i64 33), (.int .i64 61)] 3 1), (126553, awb25), (126509, awb22), (135928, awb37), (135927, awb38), (135683, awb39), (135904, awb27), (129674, awb30), (129406, .cells [(.int .i64 0), (.int .i64 0)] 247 2), (129433, .cells [(.int .i64 0), (.int .i64 1)] 247 2), (129460, .cells [(.int .i64 0), (.int .i64 2)] 247 2), (135934, awb40), (135606, awb41), (135614, awb54), (138718, awb50), (138716, awb70), (138712, .cells [(.bool true), (.bool true)] 4 1), (138714, .cells [(.bool false), (.bool false)] 4 1), (139511, .cells [(.int .i64 2), (.int .i64 217)] 371 2), (135520, awb43), (135543, .cells [(.int .i64 0)] 3 1), (135561, .cells [(.int .i64 0)] 3 1), (135579, .cells [(.int .i64 1)] 3 1), (146176, awb75)]
  n2 := 146258
  frame := [76568, 10245, 76506, 76518, 76531]
def awk265_h : Hook := (fun _ _ _ _ => none)
def awb76 : EBlk := .cells [(.pointer (some ⟨77594, 0, none⟩)), (.slice none 0 0), (.func (.func 46) #[] #[(.pointer (some ⟨135928, 0, none⟩))]), (.func (.func 48) #[(.pointer (some ⟨135927, 0, none⟩))] #[]), (.int .i64 162), (.slice (some ⟨135606, 0, none⟩) 1 FULL), (.slice (some ⟨135520, 0, none⟩) 3 3), (.int .i64 1), (.slice (some ⟨146176, 0, none⟩) 7 FULL), (.bool false), (.slice none 0 0)] 134 1
/-- (*railplan/operate.simulation).second -/
def awk266 : Cut where
  f := 127
  n := 146624
  args := [(.pointer (some ⟨135522, 0, none⟩))]
  pre := [(135522, awb76), (77594, awb24), (8377, awb6), (8957, awb7), (10236, awb17), (10238, awb18), (10227, awb8), (10242, awb19), (10240, awb20), (79054, awb21), (79371, awb13), (79377, awb14), (79350, awb6), (79585, awb7), (79362, awb10), (77592, awb23), (126457, .cells [(.int .i64 (-16)), (.int .i64 (-16))] 3 1), (126469, .cells [(.int .i64 0), (.int .i64 28)] 3 1), (126482, .cells [(.int .i64 33), (.int .i64 61)] 3 1), (126553, awb25), (126509, awb22), (135928, awb37), (135927, awb38), (135683, awb39), (135904, awb27), (129674, awb30), (129406, .cells [(.int .i64 0), (.int .i64 0)] 247 2), (129433, .cells [(.int .i64 0), (.int .i64 1)] 247 2), (129460, .cells [(.int .i64 0), (.int .i64 2)] 247 2), (135934, awb40), (135606, awb41), (135614, awb54), (138718, awb50), (138716, awb70), (138712, .cells [(.bool true), (.bool true)] 4 1), (138714, .cells [(.bool false), (.bool false)] 4 1), (139511, .cells [(.int .i64 2), (.int .i64 217)] 371 2), (135520, awb43), (135543, .cells [(.int .i64 0)] 3 1), (135561, .cells [(.int .i64 0)] 3 1), (135579, .cells [(.int .i64 1)] 3 1), (146176, awb75)]
  v := (.tuple #[])
  post := [(135522, awb76), (77594, awb24), (8377, awb6), (8957, awb7), (10236, awb17), (10238, awb18), (10227, awb8), (10242, awb19), (10240, awb20), (79054, awb21), (79371, awb13), (79377, awb14), (79350, awb6), (79585, awb7), (79362, awb10), (77592, awb23), (126457, .cells [(.int .i64 (-16)), (.int .i64 (-16))] 3 1), (126469, .cells [(.int .i64 0), (.int .i64 28)] 3 1), (126482, .cells [(.int .i64 33), (.int .i64 61)] 3 1), (126553, awb25), (126509, awb22), (135928, awb37), (135927, awb38), (135683, awb39), (135904, awb27), (129674, awb30), (129406, .cells [(.int .i64 0), (.int .i64 0)] 247 2), (129433, .cells [(.int .i64 0), (.int .i64 1)] 247 2), (129460, .cells [(.int .i64 0), (.int .i64 2)] 247 2), (135934, awb40), (135606, awb41), (135614, awb54), (138718, awb50), (138716, awb70), (138712, .cells [(.bool true), (.bool true)] 4 1), (138714, .cells [(.bool false), (.bool false)] 4 1), (139511, .cells [(.int .i64 2), (.int .i64 217)] 371 2), (135520, awb43), (135543, .cells [(.int .i64 0)] 3 1), (135561, .cells [(.int .i64 0)] 3 1), (135579, .cells [(.int .i64 1)] 3 1), (146176, awb75)]
  n2 := 147153
  frame := [76568, 10245, 76506, 76518, 76531]
def awk266_h : Hook := (fun _ _ _ _ => none)
def awb77 : EBlk := .cells [(.pointer (some ⟨77594, 0, none⟩)), (.slice none 0 0), (.func (.func 46) #[] #[(.pointer (some ⟨135928, 0, none⟩))]), (.func (.func 48) #[(.pointer (some ⟨135927, 0, none⟩))] #[]), (.int .i64 217), (.slice (some ⟨135606, 0, none⟩) 1 FULL), (.slice (some ⟨135520, 0, none⟩) 3 3), (.int .i64 1), (.slice (some ⟨146176, 0, none⟩) 7 FULL), (.bool false), (.slice none 0 0)] 134 1
def awb78 : EBlk := .cells [(.pointer (some ⟨77594, 0, none⟩)), (.slice none 0 0), (.func (.func 46) #[] #[(.pointer (some ⟨135928, 0, none⟩))]), (.func (.func 48) #[(.pointer (some ⟨135927, 0, none⟩))] #[]), (.int .i64 217), (.slice (some ⟨135606, 0, none⟩) 1 FULL), (.slice (some ⟨135520, 0, none⟩) 3 3), (.int .i64 0), (.slice (some ⟨147934, 0, none⟩) 9 FULL), (.bool true), (.slice none 0 0)] 134 1
def awb79 : EBlk := .cells [(.int .i64 0), (.slice (some ⟨126509, 0, none⟩) 1 FULL), (.int .i64 4), (.int .i64 3), (.int .i64 0), (.int .i64 0), (.int .i64 100), (.int .i64 3), (.slice (some ⟨138718, 0, none⟩) 1 FULL), (.slice (some ⟨139511, 0, none⟩) 0 FULL), (.int .i64 217), (.bool true)] 253 1
def awb80 : EBlk := .cells [(.int .i64 40), (.int .i64 5), (.int .i64 0), (.int .i64 0), (.int .i64 0), (.int .i64 0), (.int .i64 84), (.int .i64 5), (.int .i64 0), (.int .i64 0), (.int .i64 1), (.int .i64 0), (.int .i64 84), (.int .i64 5), (.int .i64 0), (.int .i64 0), (.int .i64 2), (.int .i64 0), (.int .i64 100), (.int .i64 8), (.int .i64 0), (.int .i64 0), (.int .i64 0), (.int .i64 0), (.int .i64 133), (.int .i64 1), (.int .i64 0), (.int .i64 0), (.int .i64 0), (.int .i64 0), (.int .i64 157), (.int .i64 2), (.int .i64 0), (.int .i64 0), (.int .i64 2), (.int .i64 0), (.int .i64 161), (.int .i64 1), (.int .i64 0), (.int .i64 0), (.int .i64 0), (.int .i64 1), (.int .i64 217), (.int .i64 1), (.int .i64 0), (.int .i64 0), (.int .i64 0), (.int .i64 2), (.int .i64 217), (.int .i64 3), (.int .i64 0), (.int .i64 0), (.int .i64 0), (.int .i64 0)] 51 6
/-- (*railplan/operate.simulation).second -/
def awk267 : Cut where
  f := 127
  n := 147512
  args := [(.pointer (some ⟨135522, 0, none⟩))]
  pre := [(135522, awb77), (77594, awb24), (8377, awb6), (8957, awb7), (10236, awb17), (10238, awb18), (10227, awb8), (10242, awb19), (10240, awb20), (79054, awb21), (79371, awb13), (79377, awb14), (79350, awb6), (79585, awb7), (79362, awb10), (77592, awb23), (126457, .cells [(.int .i64 (-16)), (.int .i64 (-16))] 3 1), (126469, .cells [(.int .i64 0), (.int .i64 28)] 3 1), (126482, .cells [(.int .i64 33), (.int .i64 61)] 3 1), (126553, awb25), (126509, awb22), (135928, awb37), (135927, awb38), (135683, awb39), (135904, awb27), (129674, awb30), (129406, .cells [(.int .i64 0), (.int .i64 0)] 247 2), (129433, .cells [(.int .i64 0), (.int .i64 1)] 247 2), (129460, .cells [(.int .i64 0), (.int .i64 2)] 247 2), (135934, awb40), (135606, awb41), (135614, awb54), (138718, awb50), (138716, awb70), (138712, .cells [(.bool true), (.bool true)] 4 1), (138714, .cells [(.bool false), (.bool false)] 4 1), (139511, .cells [(.int .i64 2), (.int .i64 217)] 371 2), (135520, awb43), (135543, .cells [(.int .i64 0)] 3 1), (135561, .cells [(.int .i64 0)] 3 1), (135579, .cells [(.int .i64 1)] 3 1), (146176, awb75)]
  v := (.tuple #[])
  post := [(135522, awb78), (77594, awb24), (8377, awb6), (8957, awb7), (10236, awb17), (10238, awb18), (10227, awb8), (10242, awb19), (10240, awb20), (79054, awb21), (79371, awb13), (79377, awb14), (79350, awb6), (79585, awb7), (79362, awb10), (77592, awb23), (126457, .cells [(.int .i64 (-16)), (.int .i64 (-16))] 3 1), (126469, .cells [(.int .i64 0), (.int .i64 28)] 3 1), (126482, .cells [(.int .i64 33), (.int .i64 61)] 3 1), (126553, awb25), (126509, awb22), (135928, awb37), (135927, awb38), (135683, awb39), (135904, awb27), (129674, awb30), (129406, .cells [(.int .i64 0), (.int .i64 0)] 247 2), (129433, .cells [(.int .i64 0), (.int .i64 1)] 247 2), (129460, .cells [(.int .i64 0), (.int .i64 2)] 247 2), (135934, awb40), (135606, awb41), (135614, awb79), (138718, awb50), (138716, awb70), (138712, .cells [(.bool true), (.bool true)] 4 1), (138714, .cells [(.bool false), (.bool false)] 4 1), (139511, .cells [(.int .i64 0), (.int .i64 0)] 371 2), (135520, awb43), (135543, .cells [(.int .i64 0)] 3 1), (135561, .cells [(.int .i64 0)] 3 1), (135579, .cells [(.int .i64 0)] 3 1), (147934, awb80)]
  n2 := 148190
  frame := [76568, 10245, 76506, 76518, 76531]
def awk267_h : Hook := (fun _ _ _ _ => none)
def awb81 : EBlk := .cells [(.pointer (some ⟨77594, 0, none⟩)), (.slice none 0 0), (.func (.func 46) #[] #[(.pointer (some ⟨135928, 0, none⟩))]), (.func (.func 48) #[(.pointer (some ⟨135927, 0, none⟩))] #[]), (.int .i64 0), (.slice (some ⟨135606, 0, none⟩) 1 FULL), (.slice (some ⟨135520, 0, none⟩) 3 3), (.int .i64 0), (.slice none 0 0), (.bool false), (.slice none 0 0)] 134 1
/-- (*railplan/operate.simulation).run -/
def awk268 : Cut where
  f := 49
  n := 136012
  args := [(.pointer (some ⟨135522, 0, none⟩)), (.int .i64 9223372036854775807)]
  pre := [(135522, awb81), (77594, awb24), (8377, awb6), (8957, awb7), (10236, awb17), (10238, awb18), (10227, awb8), (10242, awb19), (10240, awb20), (79054, awb21), (79371, awb13), (79377, awb14), (79350, awb6), (79585, awb7), (79362, awb10), (77592, awb23), (126457, .cells [(.int .i64 (-16)), (.int .i64 (-16))] 3 1), (126469, .cells [(.int .i64 0), (.int .i64 28)] 3 1), (126482, .cells [(.int .i64 33), (.int .i64 61)] 3 1), (126553, awb25), (126509, awb22), (135928, awb37), (135927, awb38), (135683, awb39), (135904, awb27), (129674, awb30), (129406, .cells [(.int .i64 0), (.int .i64 0)] 247 2), (129433, .cells [(.int .i64 0), (.int .i64 1)] 247 2), (129460, .cells [(.int .i64 0), (.int .i64 2)] 247 2), (135934, awb40), (135606, awb41), (135614, awb42), (135520, awb43), (135543, .cells [(.int .i64 0)] 3 1), (135561, .cells [(.int .i64 0)] 3 1), (135579, .cells [(.int .i64 0)] 3 1)]
  v := (.tuple #[])
  post := [(135522, awb78), (77594, awb24), (8377, awb6), (8957, awb7), (10236, awb17), (10238, awb18), (10227, awb8), (10242, awb19), (10240, awb20), (79054, awb21), (79371, awb13), (79377, awb14), (79350, awb6), (79585, awb7), (79362, awb10), (77592, awb23), (126457, .cells [(.int .i64 (-16)), (.int .i64 (-16))] 3 1), (126469, .cells [(.int .i64 0), (.int .i64 28)] 3 1), (126482, .cells [(.int .i64 33), (.int .i64 61)] 3 1), (126553, awb25), (126509, awb22), (135928, awb37), (135927, awb38), (135683, awb39), (135904, awb27), (129674, awb30), (129406, .cells [(.int .i64 0), (.int .i64 0)] 247 2), (129433, .cells [(.int .i64 0), (.int .i64 1)] 247 2), (129460, .cells [(.int .i64 0), (.int .i64 2)] 247 2), (135934, awb40), (135606, awb41), (135614, awb79), (138718, awb50), (138716, awb70), (138712, .cells [(.bool true), (.bool true)] 4 1), (138714, .cells [(.bool false), (.bool false)] 4 1), (139511, .cells [(.int .i64 0), (.int .i64 0)] 371 2), (135520, awb43), (135543, .cells [(.int .i64 0)] 3 1), (135561, .cells [(.int .i64 0)] 3 1), (135579, .cells [(.int .i64 0)] 3 1), (147934, awb80)]
  n2 := 148262
  frame := [76568, 10245, 76506, 76518, 76531]
def awk268_h : Hook := (cutHook awk249 (cutHook awk252 (cutHook awk253 (cutHook awk254 (cutHook awk255 (cutHook awk256 (cutHook awk257 (cutHook awk259 (cutHook awk260 (cutHook awk261 (cutHook awk262 (cutHook awk263 (cutHook awk264 (cutHook awk265 (cutHook awk266 (cutHook awk267 (fun _ _ _ _ => none)))))))))))))))))
/-- slices.insertionSortCmpFunc[railplan/api.Record] -/
def awk269 : Cut where
  f := 345
  n := 148370
  args := [(.slice (some ⟨147934, 0, none⟩) 9 FULL), (.int .i64 0), (.int .i64 9), (.func (.func 131) #[] #[])]
  pre := [(147934, awb80)]
  v := (.tuple #[])
  post := [(147934, awb80)]
  n2 := 150254
  frame := [135522, 77594, 8377, 8957, 10236, 10238, 10227, 10242, 10240, 79054, 79371, 79377, 79350, 79585, 79362, 77592, 126457, 126469, 126482, 126553, 126509, 135928, 135927, 135683, 135904, 129674, 129406, 129433, 129460, 135934, 135606, 135614, 138718, 138716, 138712, 138714, 139511, 135520, 135543, 135561, 135579, 76568, 10245, 76506, 76518, 76531]
def awk269_h : Hook := (fun _ _ _ _ => none)
/-- railplan/operate.Run -/
def awk270 : Cut where
  f := 13
  n := 76568
  args := [(.agg #[(.slice none 0 0), (.slice none 0 0), (.slice (some ⟨8377, 0, none⟩) 3 FULL), (.slice (some ⟨8957, 0, none⟩) 2 FULL), (.slice (some ⟨10236, 0, none⟩) 1 1), (.slice (some ⟨10238, 0, none⟩) 1 1), (.slice (some ⟨10242, 0, none⟩) 1 1)]), (.slice none 0 0)]
  pre := [(8377, awb6), (8957, awb7), (10236, awb17), (10238, awb18), (10227, awb8), (10242, awb19), (10240, awb20)]
  v := (.tuple #[(.slice (some ⟨147934, 0, none⟩) 9 FULL), (.int .i64 0)])
  post := [(147934, awb80), (8377, awb6), (8957, awb7), (10236, awb17), (10238, awb18), (10227, awb8), (10242, awb19), (10240, awb20)]
  n2 := 150261
  frame := [10245, 76506, 76518, 76531]
def awk270_h : Hook := (cutHook awk241 (cutHook awk248 (cutHook awk268 (cutHook awk269 (fun _ _ _ _ => none)))))
end Go.Proofs.YtcbcegdidlefiaaGreat
