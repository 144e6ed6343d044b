/- The pure law of the queue: Order. Conditions: none. -/
import Derived.Test.YtclblogdciebnaaPe
