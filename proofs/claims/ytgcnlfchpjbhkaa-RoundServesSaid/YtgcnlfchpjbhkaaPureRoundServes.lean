/- The pure law RoundServes. Conditions: none. -/
import Derived.Test.YtgcnlfchpjbhkaaPe
