/- The pure law of the cut: Rest. Conditions: none. -/
import Derived.Test.YtnfjibcfnchkkaaPf
